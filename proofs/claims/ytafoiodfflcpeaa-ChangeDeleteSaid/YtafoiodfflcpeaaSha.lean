import Derived.Test.YtafoiodfflcpeaaProg
import Derived.Test.YtafoiodfflcpeaaVxSo
import Derived.Test.YtafoiodfflcpeaaVxTa
import Derived.Test.YtafoiodfflcpeaaVxAu
namespace Go.Proofs.Ytafoiodfflcpeaa.Sh
open Go Go.RowKit Go.Proofs.Vx
set_option linter.unusedVariables false
set_option maxRecDepth 100000
set_option maxHeartbeats 1000000
structure T_api_Name where
 Space:Str
 Local:Str
 deriving Inhabited
def e_api_Name (x:T_api_Name):List D:=[(S x.Space),(S x.Local)]
structure T_api_Attr where
 Name:T_api_Name
 Value:Str
 deriving Inhabited
def e_api_Attr (x:T_api_Attr):List D:=[(S x.Name.Space),(S x.Name.Local),(S x.Value)]
structure T_api_Node where
 Kind:Int
 Name:T_api_Name
 Attrs:List T_api_Attr
 Kids:List T_api_Node
 Text:Str
 deriving Inhabited
mutual
def r_api_Node:T_api_Node→List D
 | .mk x0 x1 x2 x3 x4 => [(.v (.int .i64 x0)),(S x1.Space),(S x1.Local),(L 3 e_api_Attr x2),(.list 6 (r_api_NodeL x3)),(S x4)]
def r_api_NodeL:List T_api_Node→List (List D)
 | [] => []
 | x :: xs => r_api_Node x :: r_api_NodeL xs
end
theorem r_api_NodeL_eq:∀ xs,r_api_NodeL xs=xs.map r_api_Node
 | [] => rfl
 | x :: xs => by rw [r_api_NodeL,r_api_NodeL_eq xs]; rfl
def e_api_Node (x:T_api_Node):List D:=[(.v (.int .i64 x.Kind)),(S x.Name.Space),(S x.Name.Local),(L 3 e_api_Attr x.Attrs),(L 6 r_api_Node x.Kids),(S x.Text)]
theorem r_api_Node_eq:r_api_Node=e_api_Node:=funext fun x => by cases x; rw [r_api_Node]; simp only [r_api_NodeL_eq]; rfl
theorem e_api_Node_c (x:T_api_Node):e_api_Node x=[(.v (.int .i64 x.Kind)),(S x.Name.Space),(S x.Name.Local),(L 3 e_api_Attr x.Attrs),(L 6 e_api_Node x.Kids),(S x.Text)]:=by show [(.v (.int .i64 x.Kind)),(S x.Name.Space),(S x.Name.Local),(L 3 e_api_Attr x.Attrs),(L 6 r_api_Node x.Kids),(S x.Text)]=_; simp only [r_api_Node_eq]
structure T_api_Step where
 Kind:Int
 Any:Bool
 Name:T_api_Name
 Pos:Int
 By:Bool
 Attr:T_api_Name
 Value:Str
 deriving Inhabited
def e_api_Step (x:T_api_Step):List D:=[(.v (.int .i64 x.Kind)),(.v (.bool x.Any)),(S x.Name.Space),(S x.Name.Local),(.v (.int .i64 x.Pos)),(.v (.bool x.By)),(S x.Attr.Space),(S x.Attr.Local),(S x.Value)]
structure T_utf_span where
 From_:Int
 To_:Int
 deriving Inhabited
def e_utf_span (x:T_utf_span):List D:=[(.v (.int .i32 x.From_)),(.v (.int .i32 x.To_))]
def c_api_Attr (x:T_api_Attr):List D:=[(S x.Name.Space),(S x.Name.Local),(S x.Value)]
def c_api_Node (x:T_api_Node):List D:=[(.v (.int .i64 x.Kind)),(S x.Name.Space),(S x.Name.Local),(L 3 e_api_Attr x.Attrs),(L 6 e_api_Node x.Kids),(S x.Text)]
abbrev S0:D:=S ([]:Str)
abbrev z0N:List D:=[(.v (.int .i64 0)),(S ([]:Str)),(S ([]:Str)),(L 3 e_api_Attr ([]:List T_api_Attr)),(L 6 e_api_Node ([]:List T_api_Node)),(S ([]:Str))]
abbrev bx0:Ob:=.box .ex z0N
abbrev bxN (x:T_api_Node):Ob:=.box .ex (c_api_Node x)
abbrev c1N (x:T_api_Node):List D:=[(.v (.int .i64 x.Kind)),(S x.Name.Space),(S x.Name.Local),(L 3 e_api_Attr x.Attrs),(.sref 1024),(S x.Text)]
def c_api_Step (x:T_api_Step):List D:=[(.v (.int .i64 x.Kind)),(.v (.bool x.Any)),(S x.Name.Space),(S x.Name.Local),(.v (.int .i64 x.Pos)),(.v (.bool x.By)),(S x.Attr.Space),(S x.Attr.Local),(S x.Value)]
instance:Glo:=⟨fun _ => True,fun _ => False,fun _ _ _ h => h⟩
theorem mixed:Try.prog.follows .mixedOrders=true:=by kernel_rfl
theorem zo27:zeroOf Try.prog 27=some (.agg #[(.int .i64 0),(.string (ba [])),(.string (ba [])),(.slice none 0 0),(.slice none 0 0),(.string (ba []))]):=by kernel_rfl
theorem sz9:szOf Try.prog 9=some 1:=by kernel_rfl
theorem fa23 {fs:Array Field} (h:Try.prog.underlying 23=some (.struct fs)):fieldsAt Try.prog fs [(0,1),(1,1)]:=by rw [Try.underlying23] at h; cases h; unfold fieldsAt; kernel_rfl
theorem zo23:zeroOf Try.prog 23=some (.agg #[(.string (ba [])),(.string (ba []))]):=by kernel_rfl
theorem sz3:szOf Try.prog 3=some 1:=by kernel_rfl
theorem sz23:szOf Try.prog 23=some 2:=by kernel_rfl
theorem sz24:szOf Try.prog 24=some 1:=by kernel_rfl
theorem sz25:szOf Try.prog 25=some 1:=by kernel_rfl
theorem fa27 {fs:Array Field} (h:Try.prog.underlying 27=some (.struct fs)):fieldsAt Try.prog fs [(0,1),(1,2),(3,1),(4,1),(5,1)]:=by rw [Try.underlying27] at h; cases h; unfold fieldsAt; kernel_rfl
theorem sz27:szOf Try.prog 27=some 6:=by kernel_rfl
theorem cl16:callable Try.prog 16=true:=by kernel_rfl
theorem zs27:(zeroOf Try.prog 27).map (fun z => z.cells.size)=some 6:=by kernel_rfl
theorem zo45:zeroOf Try.prog 45=some (.agg #[(.int .i64 0),(.bool false),(.string (ba [])),(.string (ba [])),(.int .i64 0),(.bool false),(.string (ba [])),(.string (ba [])),(.string (ba []))]):=by kernel_rfl
theorem sz4:szOf Try.prog 4=some 1:=by kernel_rfl
theorem fa45 {fs:Array Field} (h:Try.prog.underlying 45=some (.struct fs)):fieldsAt Try.prog fs [(0,1),(1,1),(2,2),(4,1),(5,1),(6,2),(8,1)]:=by rw [Try.underlying45] at h; cases h; unfold fieldsAt; kernel_rfl
theorem sz45:szOf Try.prog 45=some 9:=by kernel_rfl
theorem cl17:callable Try.prog 17=true:=by kernel_rfl
theorem zs45:(zeroOf Try.prog 45).map (fun z => z.cells.size)=some 9:=by kernel_rfl
theorem cl20:callable Try.prog 20=true:=by kernel_rfl
theorem by45:bytesOf Try.prog 45=some 112:=by kernel_rfl
theorem elt45:Elt Try.prog 45 9 112:=.mk' sz45 by45 zs45 rfl
theorem cl43:callable Try.prog 43=true:=by kernel_rfl
theorem cl24:callable Try.prog 24=true:=by kernel_rfl
theorem cl66:callable Try.prog 66=true:=by kernel_rfl
theorem cl76:callable Try.prog 76=true:=by kernel_rfl
theorem cl65:callable Try.prog 65=true:=by kernel_rfl
theorem cl44:callable Try.prog 44=true:=by kernel_rfl
theorem eqt9 (d:Nat):EqT Try.prog (d + 1) 9 [1]:=.str d 9 Try.underlying9
theorem ag9:(Try.prog.underlying 9).map aggB=some false:=by rw [Try.underlying9]; rfl
theorem eg9:Try.prog.eqGuardType Try.prog.depth 9=false:=by kernel_rfl
theorem eqt23 (d:Nat):EqT Try.prog (d + 2) 23 [1,1]:=by
 refine EqT.struct (d + 1) 23 _ [[1],[1]] Try.underlying23 (by kernel_rfl) rfl ?_ ?_
 ·intro i f ks hf hk
  match i,hf,hk with
  | 0,hf,hk => cases hf; cases hk; exact⟨by decide,rfl,sz9⟩
  | 1,hf,hk => cases hf; cases hk; exact⟨by decide,rfl,sz9⟩
  | i + 2,hf,hk => simp at hk
 ·intro i f ks hf hk
  match i,hf,hk with
  | 0,hf,hk => cases hf; cases hk; exact eqt9 (d + 0)
  | 1,hf,hk => cases hf; cases hk; exact eqt9 (d + 0)
  | i + 2,hf,hk => simp at hk
theorem ag23:(Try.prog.underlying 23).map aggB=some true:=by rw [Try.underlying23]; rfl
theorem eg23:Try.prog.eqGuardType Try.prog.depth 23=false:=by kernel_rfl
theorem cl77:callable Try.prog 77=true:=by kernel_rfl
theorem sz68:szOf Try.prog 68=some 3:=by kernel_rfl
theorem zo68:zeroOf Try.prog 68=some (.agg #[(.string (ba [])),(.string (ba [])),(.string (ba []))]):=by kernel_rfl
theorem cl14:callable Try.prog 14=true:=by kernel_rfl
theorem cl78:callable Try.prog 78=true:=by kernel_rfl
theorem zs3:(zeroOf Try.prog 3).map (fun z => z.cells.size)=some 1:=by kernel_rfl
theorem by3:bytesOf Try.prog 3=some 8:=by kernel_rfl
theorem elt3:Elt Try.prog 3 1 8:=.mk' sz3 by3 zs3 rfl
theorem cl67:callable Try.prog 67=true:=by kernel_rfl
theorem sz34:szOf Try.prog 34=some 1:=by kernel_rfl
theorem zs34:(zeroOf Try.prog 34).map (fun z => z.cells.size)=some 1:=by kernel_rfl
theorem by34:bytesOf Try.prog 34=some 24:=by kernel_rfl
theorem elt34:Elt Try.prog 34 1 24:=.mk' sz34 by34 zs34 rfl
theorem cl45:callable Try.prog 45=true:=by kernel_rfl
theorem cl25:callable Try.prog 25=true:=by kernel_rfl
theorem cl26:callable Try.prog 26=true:=by kernel_rfl
theorem cl9:callable Try.prog 9=true:=by kernel_rfl
theorem cl27:callable Try.prog 27=true:=by kernel_rfl
theorem zs68:(zeroOf Try.prog 68).map (fun z => z.cells.size)=some 3:=by kernel_rfl
theorem by68:bytesOf Try.prog 68=some 48:=by kernel_rfl
theorem elt68:Elt Try.prog 68 3 48:=.mk' sz68 by68 zs68 rfl
theorem cl46:callable Try.prog 46=true:=by kernel_rfl
theorem by27:bytesOf Try.prog 27=some 104:=by kernel_rfl
theorem elt27:Elt Try.prog 27 6 104:=.mk' sz27 by27 zs27 rfl
theorem cl47:callable Try.prog 47=true:=by kernel_rfl
theorem cl28:callable Try.prog 28=true:=by kernel_rfl
theorem cl10:callable Try.prog 10=true:=by kernel_rfl
theorem cl58:callable Try.prog 58=true:=by kernel_rfl
theorem cl37:callable Try.prog 37=true:=by kernel_rfl
theorem cl38:callable Try.prog 38=true:=by kernel_rfl
theorem cl39:callable Try.prog 39=true:=by kernel_rfl
theorem cl21:callable Try.prog 21=true:=by kernel_rfl
theorem cl22:callable Try.prog 22=true:=by kernel_rfl
theorem cl64:callable Try.prog 64=true:=by kernel_rfl
theorem cl42:callable Try.prog 42=true:=by kernel_rfl
theorem zo3:zeroOf Try.prog 3=some (.int .i64 0):=by kernel_rfl
theorem cl31:callable Try.prog 31=true:=by kernel_rfl
theorem cl79:callable Try.prog 79=true:=by kernel_rfl
theorem sz5:szOf Try.prog 5=some 1:=by kernel_rfl
theorem cl80:callable Try.prog 80=true:=by kernel_rfl
theorem cl81:callable Try.prog 81=true:=by kernel_rfl
theorem cl68:callable Try.prog 68=true:=by kernel_rfl
theorem sz21:szOf Try.prog 21=some 1:=by kernel_rfl
theorem fa117 {fs:Array Field} (h:Try.prog.underlying 117=some (.struct fs)):fieldsAt Try.prog fs [(0,1),(1,1)]:=by rw [Try.underlying117] at h; cases h; unfold fieldsAt; kernel_rfl
theorem zo117:zeroOf Try.prog 117=some (.agg #[(.int .i32 0),(.int .i32 0)]):=by kernel_rfl
theorem sz117:szOf Try.prog 117=some 2:=by kernel_rfl
theorem zs117:(zeroOf Try.prog 117).map (fun z => z.cells.size)=some 2:=by kernel_rfl
theorem cl82:callable Try.prog 82=true:=by kernel_rfl
theorem cl69:callable Try.prog 69=true:=by kernel_rfl
theorem cl48:callable Try.prog 48=true:=by kernel_rfl
theorem cl83:callable Try.prog 83=true:=by kernel_rfl
theorem cl84:callable Try.prog 84=true:=by kernel_rfl
theorem cl70:callable Try.prog 70=true:=by kernel_rfl
theorem cl49:callable Try.prog 49=true:=by kernel_rfl
def keq23 (a b:T_api_Name):Bool:=(a.Space == b.Space && (a.Local == b.Local && true))
theorem kt23:KeyT Try.prog 23 (fun a => D.agg (e_api_Name a)) (fun a => [.string (ba a.Space),.string (ba a.Local)]) keq23 [1,1]:=KeyT.agg (eqt23 9998) ag23 (fun _ => rfl) (fun _ _ => rfl) (fun a x h => by simp at h; rcases h with rfl | rfl <;> rfl)
theorem zo4:zeroOf Try.prog 4=some (.bool false):=by kernel_rfl
theorem cl50:callable Try.prog 50=true:=by kernel_rfl
theorem cl12:callable Try.prog 12=true:=by kernel_rfl
theorem cl23:callable Try.prog 23=true:=by kernel_rfl
theorem cl8:callable Try.prog 8=true:=by kernel_rfl
theorem cl32:callable Try.prog 32=true:=by kernel_rfl
theorem cl34:callable Try.prog 34=true:=by kernel_rfl
theorem cl35:callable Try.prog 35=true:=by kernel_rfl
theorem cl15:callable Try.prog 15=true:=by kernel_rfl
theorem fa68 {fs:Array Field} (h:Try.prog.underlying 68=some (.struct fs)):fieldsAt Try.prog fs [(0,2),(2,1)]:=by rw [Try.underlying68] at h; cases h; unfold fieldsAt; kernel_rfl
theorem cl33:callable Try.prog 33=true:=by kernel_rfl
theorem cl13:callable Try.prog 13=true:=by kernel_rfl
theorem cl6:callable Try.prog 6=true:=by kernel_rfl
theorem cl36:callable Try.prog 36=true:=by kernel_rfl
theorem cl18:callable Try.prog 18=true:=by kernel_rfl
theorem cl19:callable Try.prog 19=true:=by kernel_rfl
theorem cl7:callable Try.prog 7=true:=by kernel_rfl
theorem eqt68 (d:Nat):EqT Try.prog (d + 3) 68 [1,1,1]:=by
 refine EqT.struct (d + 2) 68 _ [[1,1],[1]] Try.underlying68 (by kernel_rfl) rfl ?_ ?_
 ·intro i f ks hf hk
  match i,hf,hk with
  | 0,hf,hk => cases hf; cases hk; exact⟨by decide,rfl,sz23⟩
  | 1,hf,hk => cases hf; cases hk; exact⟨by decide,rfl,sz9⟩
  | i + 2,hf,hk => simp at hk
 ·intro i f ks hf hk
  match i,hf,hk with
  | 0,hf,hk => cases hf; cases hk; exact eqt23 (d + 0)
  | 1,hf,hk => cases hf; cases hk; exact eqt9 (d + 1)
  | i + 2,hf,hk => simp at hk
theorem ag68:(Try.prog.underlying 68).map aggB=some true:=by rw [Try.underlying68]; rfl
theorem eg68:Try.prog.eqGuardType Try.prog.depth 68=false:=by kernel_rfl
theorem cl29:callable Try.prog 29=true:=by kernel_rfl
theorem cl30:callable Try.prog 30=true:=by kernel_rfl
theorem cl11:callable Try.prog 11=true:=by kernel_rfl
theorem cl73:callable Try.prog 73=true:=by kernel_rfl
theorem cl72:callable Try.prog 72=true:=by kernel_rfl
def watchbilllaw13_el (a0:Str) (a1:List T_api_Node):Option T_api_Node:=some (T_api_Node.mk 1 (T_api_Name.mk ((T_api_Name.mk ([]:Str) a0).Space) ((T_api_Name.mk ([]:Str) a0).Local)) ([]:List T_api_Attr) a1 ([]:Str))
theorem watchbilllaw13_el.ok {a0:Str} {a1:List T_api_Node} {r:T_api_Node} (H:watchbilllaw13_el a0 a1=some r):Vx.Fn Try.prog 16 [(S a0),(L 6 e_api_Node a1)] [] (.agg (e_api_Node r)) []:=by
 unfold watchbilllaw13_el at H
 refine Vx.Fn.of_okR Try.func16 rfl (Nat.le_of_ble_eq_true rfl) ?_
 refine Ok.seq ?_
 refine .rg [(0,(S a0)),(1,(L 6 e_api_Node a1)),(4,(.bref 4 0))] [(4,bx0)] ?_
 refine Ok.seq ?_
 refine Ok.region (σ':=⟨[(4,(.bref 4 0))],[(4,(.box .ex (c_api_Node (T_api_Node.mk 1 (T_api_Name.mk ((T_api_Name.mk ([]:Str) a0).Space) ((T_api_Name.mk ([]:Str) a0).Local)) ([]:List T_api_Attr) a1 ([]:Str)))))]⟩) ?_ ?_
 ·refine .rn 1 ?_
  refine .cv (VOk.to (d':=(.agg (e_api_Name (T_api_Name.mk ([]:Str) a0)))) (.build [none,none] [(0,1),(1,1)] rfl Try.underlying23 (fa23 Try.underlying23) zo23 rfl rfl) rfl) rfl rfl ?_
  refine .rn 1 ?_
  refine .cv (VOk.to (d':=(.agg (e_api_Node (T_api_Node.mk 1 (T_api_Name.mk ((T_api_Name.mk ([]:Str) a0).Space) ((T_api_Name.mk ([]:Str) a0).Local)) ([]:List T_api_Attr) a1 ([]:Str))))) (.build [none,none,none,some 3,some 6,none] [(0,1),(1,2),(3,1),(4,1),(5,1)] rfl Try.underlying27 (fa27 Try.underlying27) zo27 rfl rfl) (congrArg D.agg (e_api_Node_c (T_api_Node.mk 1 (T_api_Name.mk ((T_api_Name.mk ([]:Str) a0).Space) ((T_api_Name.mk ([]:Str) a0).Local)) ([]:List T_api_Attr) a1 ([]:Str))).symm)) rfl rfl ?_
  refine OpsOk.cut1 8 (.agg [(.v (.int .i64 ((T_api_Node.mk 1 (T_api_Name.mk ((T_api_Name.mk ([]:Str) a0).Space) ((T_api_Name.mk ([]:Str) a0).Local)) ([]:List T_api_Attr) a1 ([]:Str)).Kind))),(S ((T_api_Node.mk 1 (T_api_Name.mk ((T_api_Name.mk ([]:Str) a0).Space) ((T_api_Name.mk ([]:Str) a0).Local)) ([]:List T_api_Attr) a1 ([]:Str)).Name.Space)),(S ((T_api_Node.mk 1 (T_api_Name.mk ((T_api_Name.mk ([]:Str) a0).Space) ((T_api_Name.mk ([]:Str) a0).Local)) ([]:List T_api_Attr) a1 ([]:Str)).Name.Local)),(L 3 e_api_Attr ((T_api_Node.mk 1 (T_api_Name.mk ((T_api_Name.mk ([]:Str) a0).Space) ((T_api_Name.mk ([]:Str) a0).Local)) ([]:List T_api_Attr) a1 ([]:Str)).Attrs)),(L 6 e_api_Node ((T_api_Node.mk 1 (T_api_Name.mk ((T_api_Name.mk ([]:Str) a0).Space) ((T_api_Name.mk ([]:Str) a0).Local)) ([]:List T_api_Attr) a1 ([]:Str)).Kids)),(S ((T_api_Node.mk 1 (T_api_Name.mk ((T_api_Name.mk ([]:Str) a0).Space) ((T_api_Name.mk ([]:Str) a0).Local)) ([]:List T_api_Attr) a1 ([]:Str)).Text))]) (DLe.of_eq (congrArg D.agg (e_api_Node_c _).symm)) ?_
  refine .rn 1 ?_
  exact .dn
 refine Ok.ret ?_
 obtain rfl:=Option.some.inj H
 exact⟨.inl rfl,⟨_,(.cons (.cell (VOk.to (d':=(.agg (e_api_Node (T_api_Node.mk 1 (T_api_Name.mk ((T_api_Name.mk ([]:Str) a0).Space) ((T_api_Name.mk ([]:Str) a0).Local)) ([]:List T_api_Attr) a1 ([]:Str))))) (.loadBAgg rfl Try.underlying27 rfl sz27 rfl rfl rfl) (congrArg D.agg (e_api_Node_c (T_api_Node.mk 1 (T_api_Name.mk ((T_api_Name.mk ([]:Str) a0).Space) ((T_api_Name.mk ([]:Str) a0).Local)) ([]:List T_api_Attr) a1 ([]:Str))).symm))) .nil),rfl⟩,trivial⟩
def watchbilllaw13_step (a0:Str) (a1:Int):Option T_api_Step:=some (T_api_Step.mk 1 false (T_api_Name.mk ((T_api_Name.mk ([]:Str) a0).Space) ((T_api_Name.mk ([]:Str) a0).Local)) a1 false (T_api_Name.mk ([]:Str) ([]:Str)) ([]:Str))
theorem watchbilllaw13_step.ok {a0:Str} {a1:Int} {r:T_api_Step} (H:watchbilllaw13_step a0 a1=some r):Vx.Fn Try.prog 17 [(S a0),(.v (.int .i64 a1))] [] (.agg (e_api_Step r)) []:=by
 unfold watchbilllaw13_step at H
 refine Vx.Fn.of_okR Try.func17 rfl (Nat.le_of_ble_eq_true rfl) ?_
 refine Ok.seq ?_
 refine .rg [(0,(S a0)),(1,(.v (.int .i64 a1))),(4,(.bref 4 0))] [(4,(.box .ex [(.v (.int .i64 0)),(.v (.bool false)),S0,S0,(.v (.int .i64 0)),(.v (.bool false)),S0,S0,S0]))] ?_
 refine Ok.seq ?_
 refine Ok.region (σ':=⟨[(4,(.bref 4 0))],[(4,(.box .ex (c_api_Step (T_api_Step.mk 1 false (T_api_Name.mk ((T_api_Name.mk ([]:Str) a0).Space) ((T_api_Name.mk ([]:Str) a0).Local)) a1 false (T_api_Name.mk ([]:Str) ([]:Str)) ([]:Str)))))]⟩) ?_ ?_
 ·refine .rn 1 ?_
  refine .cv (VOk.to (d':=(.agg (e_api_Name (T_api_Name.mk ([]:Str) a0)))) (.build [none,none] [(0,1),(1,1)] rfl Try.underlying23 (fa23 Try.underlying23) zo23 rfl rfl) rfl) rfl rfl ?_
  refine .rn 1 ?_
  refine .cv (VOk.to (d':=(.agg (e_api_Step (T_api_Step.mk 1 false (T_api_Name.mk ((T_api_Name.mk ([]:Str) a0).Space) ((T_api_Name.mk ([]:Str) a0).Local)) a1 false (T_api_Name.mk ([]:Str) ([]:Str)) ([]:Str))))) (.build [none,none,none,none,none,none,none,none,none] [(0,1),(1,1),(2,2),(4,1),(5,1),(6,2),(8,1)] rfl Try.underlying45 (fa45 Try.underlying45) zo45 rfl rfl) rfl) rfl rfl ?_
  refine .rn 1 ?_
  exact .dn
 refine Ok.ret ?_
 obtain rfl:=Option.some.inj H
 exact⟨.inl rfl,⟨_,(.cons (.cell (VOk.to (d':=(.agg (e_api_Step (T_api_Step.mk 1 false (T_api_Name.mk ((T_api_Name.mk ([]:Str) a0).Space) ((T_api_Name.mk ([]:Str) a0).Local)) a1 false (T_api_Name.mk ([]:Str) ([]:Str)) ([]:Str))))) (.loadBAgg rfl Try.underlying45 rfl sz45 rfl rfl rfl) rfl)) .nil),rfl⟩,trivial⟩
def change_names.l0 (k:Nat) (a0:List T_api_Step):Nat→Int→Option Bool
 | 0,_ => none
 | m3 + 1,x7_1 => (if (decide (x7_1 < (a0.length:Int)))=true then (if (0:Int) ≤ x7_1 ∧ x7_1 < (a0.length:Int) then (if (((rd a0 x7_1).Kind) != 1)=true then some false else change_names.l0 k a0 m3 (IntKind.i64.wrap (x7_1 + 1))) else none) else some (decide ((a0.length:Int) > 0)))
def change_names (k:Nat) (a0:List T_api_Step):Option Bool:=change_names.l0 k a0 k 0
theorem change_names.ok {k:Nat} {a0:List T_api_Step} {r:Bool} (H:change_names k a0=some r):Vx.Fn Try.prog 20 [(L 9 e_api_Step a0)] [] (.v (.bool r)) []:=by
 unfold change_names at H
 refine Vx.Fn.of_okR Try.func20 rfl (Nat.le_of_ble_eq_true rfl) ?_
 refine Ok.seq ?_
 refine .rg [(0,(L 9 e_api_Step a0))] [] ?_
 refine Ok.seq ?_
 refine Ok.seq ?_
 refine Ok.region (σ':=⟨[(0,(L 9 e_api_Step a0)),(5,(L 9 e_api_Step a0)),(6,(.v (.int .i64 (a0.length:Int)))),(7,(.v (.int .i64 0)))],[]⟩) ?_ ?_
 ·refine .rn 1 ?_
  refine .cv (VOk.lenL (e:=e_api_Step) (xs:=a0) rfl Try.underlying28 rfl) rfl rfl ?_
  refine .rn 1 ?_
  exact .dn
 refine Ok.block ?_
 refine Ok.loop (fun m3 σ => ∃ (x7_1:Int),σ=⟨[(0,(L 9 e_api_Step a0)),(5,(L 9 e_api_Step a0)),(6,(.v (.int .i64 (a0.length:Int)))),(7,(.v (.int .i64 x7_1)))],[]⟩ ∧ change_names.l0 k a0 m3 x7_1=some r) k ⟨0,rfl,H⟩ ?_
 rintro m3 σ ⟨x7_1,rfl,H⟩
 cases m3 with
 | zero => exact absurd H (by simp [change_names.l0])
 | succ m3 =>
  unfold change_names.l0 at H
  refine Ok.seq ?_
  refine .rg [(0,(L 9 e_api_Step a0)),(5,(L 9 e_api_Step a0)),(6,(.v (.int .i64 (a0.length:Int)))),(7,(.v (.int .i64 x7_1))),(8,(.v (.bool (decide (x7_1 < (a0.length:Int))))))] [] ?_
  refine Ok.seq ?_
  refine Ok.test (b:=(decide (x7_1 < (a0.length:Int)))) rfl (fun hb6 => ?_) (fun hb6 => ?_)
  ·replace H:=ifT H hb6
   refine Ok.skip ?_
   refine Ok.seq ?_
   refine Ok.block ?_
   refine Ok.seq ?_
   obtain⟨c4,H⟩:=assertE H
   refine Ok.region (σ':=⟨[(0,(L 9 e_api_Step a0)),(4,(.bref 4 0)),(5,(L 9 e_api_Step a0)),(6,(.v (.int .i64 (a0.length:Int)))),(7,(.v (.int .i64 x7_1)))],[(4,(.box .ex (c_api_Step (rd a0 x7_1))))]⟩) ?_ ?_
   ·refine .cv (VOk.indexL (sz:=9) (e:=e_api_Step) (xs:=a0) (i:=x7_1) rfl Try.underlying28 sz45 rfl rfl c4) rfl rfl ?_
    refine .rn 3 ?_
    exact .dn
   refine Ok.seq ?_
   refine .rg [(0,(L 9 e_api_Step a0)),(5,(L 9 e_api_Step a0)),(6,(.v (.int .i64 (a0.length:Int)))),(7,(.v (.int .i64 x7_1))),(13,(.v (.bool (((rd a0 x7_1).Kind) != 1))))] [] ?_
   refine Ok.test (b:=(((rd a0 x7_1).Kind) != 1)) rfl (fun hb5 => ?_) (fun hb5 => ?_)
   ·replace H:=ifT H hb5
    refine Ok.seq ?_
    refine .rg [(2,(.v (.bool false)))] [] ?_
    refine Ok.ret ?_
    obtain rfl:=Option.some.inj H
    exact⟨.inl rfl,⟨_,(.cons (.tmp rfl) .nil),rfl⟩,trivial⟩
   ·replace H:=ifF H hb5
    refine Ok.skip ?_
    refine .rg [(0,(L 9 e_api_Step a0)),(5,(L 9 e_api_Step a0)),(6,(.v (.int .i64 (a0.length:Int)))),(7,(.v (.int .i64 (IntKind.i64.wrap (x7_1 + 1)))))] [] ?_
    exact⟨m3,Nat.lt_succ_self m3,(IntKind.i64.wrap (x7_1 + 1)),rfl,H⟩
  ·replace H:=ifF H hb6
   refine Ok.exit ?_
   refine Ok.seq ?_
   refine Ok.region (σ':=⟨[(2,(.v (.bool (decide ((a0.length:Int) > 0)))))],[]⟩) ?_ ?_
   ·refine .rn 1 ?_
    refine .cv (VOk.lenL (e:=e_api_Step) (xs:=a0) rfl Try.underlying28 rfl) rfl rfl ?_
    refine .rn 2 ?_
    exact .dn
   refine Ok.ret ?_
   obtain rfl:=Option.some.inj H
   exact⟨.inl rfl,⟨_,(.cons (.tmp rfl) .nil),rfl⟩,trivial⟩
def slices_Clone_43 (a0:List T_api_Step):Option (List T_api_Step):=(if (([]:List T_api_Step).length + a0.length) * 112 ≤ 140737488355328 then some (([]:List T_api_Step) ++ a0) else none)
theorem slices_Clone_43.ok {a0:List T_api_Step} {r:(List T_api_Step)} (H:slices_Clone_43 a0=some r):Vx.Fn Try.prog 43 [(L 9 e_api_Step a0)] [] (L 9 e_api_Step r) []:=by
 unfold slices_Clone_43 at H
 refine Vx.Fn.of_okR Try.func43 rfl (Nat.le_of_ble_eq_true rfl) ?_
 refine Ok.seq ?_
 refine .rg [(0,(L 9 e_api_Step a0))] [] ?_
 refine Ok.seq ?_
 refine Ok.seq ?_
 refine Ok.regionB (X:=fun b => b=true→a0=[]) (σ':=fun nb1 =>⟨[(0,(L 9 e_api_Step a0)),(4,(.v (.bool nb1)))],[]⟩) ?_ (fun nb1 hnb1 => ?_)
 ·refine OpsB.cons rfl (.v (VOk.mv (d:=(L 9 e_api_Step a0)) rfl rfl) rfl) ?_
  exact .last rfl (BOk.eqNil (E:=e_api_Step) (xs:=a0) rfl Try.underlying28 rfl) rfl (fun nb1 => (.rf rfl rfl))
 refine Ok.test (b:=nb1) rfl (fun hb3 => ?_) (fun hb3 => ?_)
 ·replace H:some ([]:List T_api_Step)=some r:=nilH (hnb1 hb3) H (fun h => by (try rw [h]); rfl)
  refine Ok.seq ?_
  refine .rg [(2,(.v (.slice none 0 0)))] [] ?_
  refine Ok.le (σ':=⟨[(2,(L 9 e_api_Step ([]:List T_api_Step)))],[]⟩) (.mk ⟨.nil _,trivial⟩ trivial) ?_
  refine Ok.ret ?_
  obtain rfl:=Option.some.inj H
  exact⟨.inl rfl,⟨_,(.cons (.tmp rfl) .nil),rfl⟩,trivial⟩
 ·refine Ok.skip ?_
  refine Ok.seq ?_
  obtain⟨c2,H⟩:=assertE H
  refine Ok.region (σ':=⟨[(2,(L 9 e_api_Step (([]:List T_api_Step) ++ a0)))],[]⟩) ?_ ?_
  ·refine .cg (GOk.to (d':=(.clist 9 (List.map e_api_Step ([]:List T_api_Step)))) (GOk.litC rfl Try.underlying28 sz45 zs45 rfl rfl rfl rfl) rfl) rfl rfl ?_
   refine .rn 1 ?_
   refine .cg (GOk.appendC (e:=e_api_Step) (xs:=([]:List T_api_Step)) (ys:=a0) rfl Try.underlying28 elt45 (.same _) rfl c2) rfl rfl ?_
   refine .rn 1 ?_
   exact .dn
  refine Ok.ret ?_
  obtain rfl:=Option.some.inj H
  exact⟨.inl rfl,⟨_,(.cons (.tmp rfl) .nil),rfl⟩,trivial⟩
def match_Split (a0:List T_api_Step):Option ((List T_api_Step) × T_api_Step):=(if (((decide ((a0.length:Int) > 0)) == true)=true→(0:Int) ≤ (IntKind.i64.wrap ((a0.length:Int) - 1)) ∧ (IntKind.i64.wrap ((a0.length:Int) - 1)) < (a0.length:Int)) then (if ((((decide ((a0.length:Int) > 0)) == true) && ((((rd a0 (IntKind.i64.wrap ((a0.length:Int) - 1))).Kind) == 2) == false))=true→(0:Int) ≤ (IntKind.i64.wrap ((a0.length:Int) - 1)) ∧ (IntKind.i64.wrap ((a0.length:Int) - 1)) < (a0.length:Int)) then (if ((decide ((a0.length:Int) > 0)) && ((((rd a0 (IntKind.i64.wrap ((a0.length:Int) - 1))).Kind) == 2) || (((rd a0 (IntKind.i64.wrap ((a0.length:Int) - 1))).Kind) == 3)))=true then (if (0:Int) ≤ 0 ∧ (0:Int) ≤ (IntKind.i64.wrap ((a0.length:Int) - 1)) ∧ (IntKind.i64.wrap ((a0.length:Int) - 1)) ≤ (a0.length:Int) then ((slices_Clone_43 (sl a0 0 (IntKind.i64.wrap ((a0.length:Int) - 1)))).bind fun (t8:(List T_api_Step)) => (if (0:Int) ≤ (IntKind.i64.wrap ((a0.length:Int) - 1)) ∧ (IntKind.i64.wrap ((a0.length:Int) - 1)) < (a0.length:Int) then some (t8,(rd a0 (IntKind.i64.wrap ((a0.length:Int) - 1)))) else none)) else none) else ((slices_Clone_43 a0).bind fun (t11:(List T_api_Step)) => some (t11,(T_api_Step.mk 0 false (T_api_Name.mk ([]:Str) ([]:Str)) 0 false (T_api_Name.mk ([]:Str) ([]:Str)) ([]:Str))))) else none) else none)
theorem match_Split.ok {a0:List T_api_Step} {r:(List T_api_Step) × T_api_Step} (H:match_Split a0=some r):Vx.Fn Try.prog 24 [(L 9 e_api_Step a0)] [] (.tup [(L 9 e_api_Step r.1),(.agg (e_api_Step r.2))]) []:=by
 unfold match_Split at H
 refine Vx.Fn.of_okR Try.func24 rfl (Nat.le_of_ble_eq_true rfl) ?_
 refine Ok.seq ?_
 refine .rg [(0,(L 9 e_api_Step a0)),(3,(.bref 3 0))] [(3,(.box .ex [(.v (.int .i64 0)),(.v (.bool false)),S0,S0,(.v (.int .i64 0)),(.v (.bool false)),S0,S0,S0]))] ?_
 refine Ok.seq ?_
 refine Ok.seq ?_
 refine Ok.region (σ':=⟨[(0,(L 9 e_api_Step a0)),(3,(.bref 3 0)),(4,(.v (.int .i64 (a0.length:Int))))],[(3,(.box .ex [(.v (.int .i64 0)),(.v (.bool false)),S0,S0,(.v (.int .i64 0)),(.v (.bool false)),S0,S0,S0]))]⟩) ?_ ?_
 ·refine .rn 1 ?_
  refine .cv (VOk.lenL (e:=e_api_Step) (xs:=a0) rfl Try.underlying28 rfl) rfl rfl ?_
  refine .rn 1 ?_
  exact .dn
 refine Ok.seq ?_
 obtain⟨c2,H⟩:=assertE H
 obtain⟨c4,H⟩:=assertE H
 refine Ok.region (σ':=⟨[(0,(L 9 e_api_Step a0)),(3,(.bref 3 0)),(4,(.v (.int .i64 (a0.length:Int)))),(26,(.v (.bool ((decide ((a0.length:Int) > 0)) && ((((rd a0 (IntKind.i64.wrap ((a0.length:Int) - 1))).Kind) == 2) || (((rd a0 (IntKind.i64.wrap ((a0.length:Int) - 1))).Kind) == 3))))))],[(3,(.box .ex [(.v (.int .i64 0)),(.v (.bool false)),S0,S0,(.v (.int .i64 0)),(.v (.bool false)),S0,S0,S0]))]⟩) ?_ ?_
 ·refine .rn 3 ?_
  refine OpsOk.consI rfl rfl rfl (.one rfl) rfl (fun hw1 => (VOk.g (VOk.mv (d:=(L 9 e_api_Step a0)) rfl rfl))) ?_
  refine OpsOk.consI rfl rfl rfl (.one rfl) rfl (fun hw1 => (VOk.g (VOk.mv (d:=(.v (.int .i64 (a0.length:Int)))) rfl rfl))) ?_
  refine OpsOk.consI rfl rfl rfl (.one rfl) rfl (fun hw1 => (GOk.fr (fr':=[(11,(.v (.int .i64 (a0.length:Int))))]) ⟨DLe.of_eq (cT hw1).symm,trivial⟩ (VOk.g (VOk.arith (op:=.sub) (k:=.i64) (a:=(a0.length:Int)) (b:=1) rfl rfl rfl rfl)))) ?_
  refine OpsOk.consI rfl rfl rfl (.one rfl) rfl (fun hw1 => (GOk.fr (fr':=[(10,(L 9 e_api_Step a0)),(12,(.v (.int .i64 (IntKind.i64.wrap ((a0.length:Int) - 1)))))]) ⟨DLe.of_eq (cT hw1).symm,DLe.of_eq (cT hw1).symm,trivial⟩ (VOk.g (VOk.indexL (sz:=9) (e:=e_api_Step) (xs:=a0) (i:=(IntKind.i64.wrap ((a0.length:Int) - 1))) rfl Try.underlying28 sz45 rfl rfl (c2 hw1))))) ?_
  refine OpsOk.consI rfl rfl rfl (.one rfl) rfl (fun hw1 => (GOk.fr (fr':=[(13,(.fp (e_api_Step (rd a0 (IntKind.i64.wrap ((a0.length:Int) - 1)))) 0))]) ⟨DLe.of_eq (cT hw1).symm,trivial⟩ (VOk.g (VOk.to (VOk.fieldFp rfl Try.underlying45 rfl sz3 rfl) rfl)))) ?_
  refine OpsOk.consI rfl rfl rfl (.one rfl) rfl (fun hw1 => (GOk.fr (fr':=[(14,(.fp (e_api_Step (rd a0 (IntKind.i64.wrap ((a0.length:Int) - 1)))) 0))]) ⟨DLe.of_eq (cT hw1).symm,trivial⟩ (VOk.g (VOk.loadFp (d:=(.v (.int .i64 ((rd a0 (IntKind.i64.wrap ((a0.length:Int) - 1))).Kind)))) rfl Try.underlying3 rfl rfl rfl)))) ?_
  refine OpsOk.consI rfl rfl rfl (.one rfl) rfl (fun hw1 => (GOk.fr (fr':=[(15,(.v (.int .i64 ((rd a0 (IntKind.i64.wrap ((a0.length:Int) - 1))).Kind))))]) ⟨DLe.of_eq (cT hw1).symm,trivial⟩ (VOk.g (VOk.arith (op:=.eql) (k:=.i64) (a:=(rd a0 (IntKind.i64.wrap ((a0.length:Int) - 1))).Kind) (b:=2) rfl rfl rfl rfl)))) ?_
  refine OpsOk.consI rfl rfl rfl (.one rfl) rfl (fun hw1 => (GOk.fr (fr':=[(16,(.v (.bool (((rd a0 (IntKind.i64.wrap ((a0.length:Int) - 1))).Kind) == 2))))]) ⟨DLe.of_eq (cT hw1).symm,trivial⟩ (VOk.g (VOk.mv (d:=(.v (.bool (((rd a0 (IntKind.i64.wrap ((a0.length:Int) - 1))).Kind) == 2)))) rfl rfl)))) ?_
  refine OpsOk.consI rfl rfl rfl (.two rfl) rfl (fun hw3 => (VOk.g (VOk.mv (d:=(L 9 e_api_Step a0)) rfl rfl))) ?_
  refine OpsOk.consI rfl rfl rfl (.two rfl) rfl (fun hw3 => (VOk.g (VOk.mv (d:=(.v (.int .i64 (a0.length:Int)))) rfl rfl))) ?_
  refine OpsOk.consI rfl rfl rfl (.two rfl) rfl (fun hw3 => (GOk.fr (fr':=[(19,(.v (.int .i64 (a0.length:Int))))]) ⟨DLe.of_eq (cT hw3).symm,trivial⟩ (VOk.g (VOk.arith (op:=.sub) (k:=.i64) (a:=(a0.length:Int)) (b:=1) rfl rfl rfl rfl)))) ?_
  refine OpsOk.consI rfl rfl rfl (.two rfl) rfl (fun hw3 => (GOk.fr (fr':=[(18,(L 9 e_api_Step a0)),(20,(.v (.int .i64 (IntKind.i64.wrap ((a0.length:Int) - 1)))))]) ⟨DLe.of_eq (cT hw3).symm,DLe.of_eq (cT hw3).symm,trivial⟩ (VOk.g (VOk.indexL (sz:=9) (e:=e_api_Step) (xs:=a0) (i:=(IntKind.i64.wrap ((a0.length:Int) - 1))) rfl Try.underlying28 sz45 rfl rfl (c4 hw3))))) ?_
  refine OpsOk.consI rfl rfl rfl (.two rfl) rfl (fun hw3 => (GOk.fr (fr':=[(21,(.fp (e_api_Step (rd a0 (IntKind.i64.wrap ((a0.length:Int) - 1)))) 0))]) ⟨DLe.of_eq (cT hw3).symm,trivial⟩ (VOk.g (VOk.to (VOk.fieldFp rfl Try.underlying45 rfl sz3 rfl) rfl)))) ?_
  refine OpsOk.consI rfl rfl rfl (.two rfl) rfl (fun hw3 => (GOk.fr (fr':=[(22,(.fp (e_api_Step (rd a0 (IntKind.i64.wrap ((a0.length:Int) - 1)))) 0))]) ⟨DLe.of_eq (cT hw3).symm,trivial⟩ (VOk.g (VOk.loadFp (d:=(.v (.int .i64 ((rd a0 (IntKind.i64.wrap ((a0.length:Int) - 1))).Kind)))) rfl Try.underlying3 rfl rfl rfl)))) ?_
  refine OpsOk.consI rfl rfl rfl (.two rfl) rfl (fun hw3 => (GOk.fr (fr':=[(23,(.v (.int .i64 ((rd a0 (IntKind.i64.wrap ((a0.length:Int) - 1))).Kind))))]) ⟨DLe.of_eq (cT hw3).symm,trivial⟩ (VOk.g (VOk.arith (op:=.eql) (k:=.i64) (a:=(rd a0 (IntKind.i64.wrap ((a0.length:Int) - 1))).Kind) (b:=3) rfl rfl rfl rfl)))) ?_
  refine OpsOk.consI rfl rfl rfl (.one rfl) rfl (fun hw1 => (VOk.g (VOk.to (VOk.pickI (b:=(((rd a0 (IntKind.i64.wrap ((a0.length:Int) - 1))).Kind) == 2)) (p:=true) (q:=(((rd a0 (IntKind.i64.wrap ((a0.length:Int) - 1))).Kind) == 3)) rfl (cT hw1) (fun hp5 => rfl) (fun hp5 => (cT (and_i hw1 (f_beq hp5))))) (pickOr (((rd a0 (IntKind.i64.wrap ((a0.length:Int) - 1))).Kind) == 2) (((rd a0 (IntKind.i64.wrap ((a0.length:Int) - 1))).Kind) == 3))))) ?_
  refine .cv (VOk.to (VOk.pickI (b:=(decide ((a0.length:Int) > 0))) (p:=((((rd a0 (IntKind.i64.wrap ((a0.length:Int) - 1))).Kind) == 2) || (((rd a0 (IntKind.i64.wrap ((a0.length:Int) - 1))).Kind) == 3))) (q:=false) rfl rfl (fun hp6 => (cT (t_beq hp6))) (fun hp6 => rfl)) (pickAnd (decide ((a0.length:Int) > 0)) ((((rd a0 (IntKind.i64.wrap ((a0.length:Int) - 1))).Kind) == 2) || (((rd a0 (IntKind.i64.wrap ((a0.length:Int) - 1))).Kind) == 3)))) rfl rfl ?_
  exact .dn
 refine Ok.test (b:=((decide ((a0.length:Int) > 0)) && ((((rd a0 (IntKind.i64.wrap ((a0.length:Int) - 1))).Kind) == 2) || (((rd a0 (IntKind.i64.wrap ((a0.length:Int) - 1))).Kind) == 3)))) rfl (fun hb13 => ?_) (fun hb13 => ?_)
 ·replace H:=ifT H hb13
  refine Ok.seq ?_
  obtain⟨c7,H⟩:=assertE H
  obtain⟨t8,h9,H⟩:=bindE H
  obtain⟨c10,H⟩:=assertE H
  refine Ok.le (σ':=⟨[(0,(L 9 e_api_Step a0)),(3,(.bref 3 0)),(4,(.v (.int .i64 (a0.length:Int))))],[(3,(.box .ex [(.v (.int .i64 0)),(.v (.bool false)),S0,S0,(.v (.int .i64 0)),(.v (.bool false)),S0,S0,S0]))]⟩) (.rf rfl rfl) ?_
  refine .dU [(2,(L 9 e_api_Step t8)),(3,(.bref 3 0))] [(3,(.box .ex (c_api_Step (rd a0 (IntKind.i64.wrap ((a0.length:Int) - 1))))))] [[],[],[1],[0,2],[3],[],[],[6],[5,7],[8],[4],[9]] mixed ?_ ?_
  ·refine .un 3 ?_
   refine .uc ⟨true,[(27,(L 9 e_api_Step a0)),(29,(.v (.int .i64 (IntKind.i64.wrap ((a0.length:Int) - 1)))))],[],(L 9 e_api_Step (sl a0 0 (IntKind.i64.wrap ((a0.length:Int) - 1)))),[],false,[]⟩ ⟨.same _,.same _,trivial⟩ trivial (It2.val rfl rfl (fun T hT => (VOk.g (VOk.sliceL (e:=e_api_Step) (xs:=a0) (l:=0) (h:=(IntKind.i64.wrap ((a0.length:Int) - 1))) rfl Try.underlying28 sz45 rfl rfl rfl c7)))) ?_
   refine .uc ⟨true,[(30,(L 9 e_api_Step (sl a0 0 (IntKind.i64.wrap ((a0.length:Int) - 1)))))],[],(L 9 e_api_Step t8),[],false,[]⟩ ⟨.same _,trivial⟩ trivial (It2.val rfl rfl (fun T hT => (GOk.call rfl rfl cl43 rfl (slices_Clone_43.ok h9) rfl))) ?_
   refine .un 3 ?_
   refine .uc ⟨true,[(32,(L 9 e_api_Step a0)),(34,(.v (.int .i64 (IntKind.i64.wrap ((a0.length:Int) - 1)))))],[],(.fp (e_api_Step (rd a0 (IntKind.i64.wrap ((a0.length:Int) - 1)))) 0),[],false,[]⟩ ⟨.same _,.same _,trivial⟩ trivial (It2.val rfl rfl (fun T hT => (VOk.g (VOk.indexL (sz:=9) (e:=e_api_Step) (xs:=a0) (i:=(IntKind.i64.wrap ((a0.length:Int) - 1))) rfl Try.underlying28 sz45 rfl rfl c10)))) ?_
   refine .un 3 ?_
   exact .dn
  refine Ok.ret ?_
  obtain rfl:=Option.some.inj H
  exact⟨.inl rfl,⟨_,(.cons (.tmp rfl) (.cons (.cell (VOk.to (d':=(.agg (e_api_Step (rd a0 (IntKind.i64.wrap ((a0.length:Int) - 1)))))) (.loadBAgg rfl Try.underlying45 rfl sz45 rfl rfl rfl) rfl)) .nil)),rfl⟩,trivial⟩
 ·replace H:=ifF H hb13
  refine Ok.skip ?_
  refine Ok.seq ?_
  obtain⟨t11,h12,H⟩:=bindE H
  refine Ok.region (σ':=⟨[(2,(L 9 e_api_Step t11)),(3,(.bref 3 0))],[(3,(.box .ex (c_api_Step (T_api_Step.mk 0 false (T_api_Name.mk ([]:Str) ([]:Str)) 0 false (T_api_Name.mk ([]:Str) ([]:Str)) ([]:Str)))))]⟩) ?_ ?_
  ·refine .rn 1 ?_
   refine .cg (GOk.call rfl rfl cl43 rfl (slices_Clone_43.ok h12) rfl) rfl rfl ?_
   refine .cv (VOk.to (d':=(.agg (e_api_Step (T_api_Step.mk 0 false (T_api_Name.mk ([]:Str) ([]:Str)) 0 false (T_api_Name.mk ([]:Str) ([]:Str)) ([]:Str))))) (.build [none,none,none,none,none,none,none,none,none] [(0,1),(1,1),(2,2),(4,1),(5,1),(6,2),(8,1)] rfl Try.underlying45 (fa45 Try.underlying45) zo45 rfl rfl) rfl) rfl rfl ?_
   refine .rn 2 ?_
   exact .dn
  refine Ok.ret ?_
  obtain rfl:=Option.some.inj H
  exact⟨.inl rfl,⟨_,(.cons (.tmp rfl) (.cons (.cell (VOk.to (d':=(.agg (e_api_Step (T_api_Step.mk 0 false (T_api_Name.mk ([]:Str) ([]:Str)) 0 false (T_api_Name.mk ([]:Str) ([]:Str)) ([]:Str))))) (.loadBAgg rfl Try.underlying45 rfl sz45 rfl rfl rfl) rfl)) .nil)),rfl⟩,trivial⟩
def match_names_1 (a0:T_api_Step):Option Bool:=some (a0.Kind != 1)
theorem match_names_1.ok {a0:T_api_Step} {r:Bool} (H:match_names_1 a0=some r):Vx.Fn Try.prog 66 [(.agg (e_api_Step a0))] [] (.v (.bool r)) []:=by
 unfold match_names_1 at H
 refine Vx.Fn.of_okR Try.func66 rfl (Nat.le_of_ble_eq_true rfl) ?_
 refine Ok.seq ?_
 refine .rg [(1,(.bref 1 0))] [(1,(.box .ex (c_api_Step a0)))] ?_
 refine Ok.seq ?_
 refine .rg [(2,(.v (.bool (a0.Kind != 1))))] [] ?_
 refine Ok.ret ?_
 obtain rfl:=Option.some.inj H
 exact⟨.inl rfl,⟨_,(.cons (.tmp rfl) .nil),rfl⟩,trivial⟩
def slices_IndexFunc_76.l0 (k:Nat) (a0:List T_api_Step):Nat→Int→Option Int
 | 0,_ => none
 | m3 + 1,x8_1 => (if (decide (x8_1 < (a0.length:Int)))=true then (if (0:Int) ≤ x8_1 ∧ x8_1 < (a0.length:Int) then ((match_names_1 (rd a0 x8_1)).bind fun (t5:Bool) => (if t5=true then some x8_1 else slices_IndexFunc_76.l0 k a0 m3 (IntKind.i64.wrap (x8_1 + 1)))) else none) else some (-1))
def slices_IndexFunc_76 (k:Nat) (a0:List T_api_Step):Option Int:=slices_IndexFunc_76.l0 k a0 k 0
theorem slices_IndexFunc_76.ok {k:Nat} {a0:List T_api_Step} {r:Int} (H:slices_IndexFunc_76 k a0=some r):Vx.Fn Try.prog 76 [(L 9 e_api_Step a0),(.clo 66 [])] [] (.v (.int .i64 r)) []:=by
 unfold slices_IndexFunc_76 at H
 refine Vx.Fn.of_okR Try.func76 rfl (Nat.le_of_ble_eq_true rfl) ?_
 refine Ok.seq ?_
 refine .rg [(0,(L 9 e_api_Step a0)),(1,(.clo 66 []))] [] ?_
 refine Ok.seq ?_
 refine Ok.seq ?_
 refine Ok.region (σ':=⟨[(0,(L 9 e_api_Step a0)),(1,(.clo 66 [])),(7,(.v (.int .i64 (a0.length:Int)))),(8,(.v (.int .i64 0)))],[]⟩) ?_ ?_
 ·refine .rn 1 ?_
  refine .cv (VOk.lenL (e:=e_api_Step) (xs:=a0) rfl Try.underlying28 rfl) rfl rfl ?_
  refine .rn 1 ?_
  exact .dn
 refine Ok.block ?_
 refine Ok.loop (fun m3 σ => ∃ (x8_1:Int),σ=⟨[(0,(L 9 e_api_Step a0)),(1,(.clo 66 [])),(7,(.v (.int .i64 (a0.length:Int)))),(8,(.v (.int .i64 x8_1)))],[]⟩ ∧ slices_IndexFunc_76.l0 k a0 m3 x8_1=some r) k ⟨0,rfl,H⟩ ?_
 rintro m3 σ ⟨x8_1,rfl,H⟩
 cases m3 with
 | zero => exact absurd H (by simp [slices_IndexFunc_76.l0])
 | succ m3 =>
  unfold slices_IndexFunc_76.l0 at H
  refine Ok.seq ?_
  refine .rg [(0,(L 9 e_api_Step a0)),(1,(.clo 66 [])),(7,(.v (.int .i64 (a0.length:Int)))),(8,(.v (.int .i64 x8_1))),(9,(.v (.bool (decide (x8_1 < (a0.length:Int))))))] [] ?_
  refine Ok.seq ?_
  refine Ok.test (b:=(decide (x8_1 < (a0.length:Int)))) rfl (fun hb8 => ?_) (fun hb8 => ?_)
  ·replace H:=ifT H hb8
   refine Ok.skip ?_
   refine Ok.seq ?_
   refine Ok.block ?_
   refine Ok.seq ?_
   refine .rg [(0,(L 9 e_api_Step a0)),(1,(.clo 66 [])),(5,(.v (.int .i64 x8_1))),(7,(.v (.int .i64 (a0.length:Int)))),(8,(.v (.int .i64 x8_1)))] [] ?_
   refine Ok.seq ?_
   obtain⟨c4,H⟩:=assertE H
   obtain⟨t5,h6,H⟩:=bindE H
   refine Ok.region (σ':=⟨[(0,(L 9 e_api_Step a0)),(1,(.clo 66 [])),(5,(.v (.int .i64 x8_1))),(7,(.v (.int .i64 (a0.length:Int)))),(8,(.v (.int .i64 x8_1))),(16,(.v (.bool t5)))],[]⟩) ?_ ?_
   ·refine .rn 3 ?_
    refine .cv (VOk.indexL (sz:=9) (e:=e_api_Step) (xs:=a0) (i:=x8_1) rfl Try.underlying28 sz45 rfl rfl c4) rfl rfl ?_
    refine .rn 1 ?_
    refine .cg (GOk.call rfl rfl cl66 rfl (match_names_1.ok h6) rfl) rfl rfl ?_
    exact .dn
   refine Ok.test (b:=t5) rfl (fun hb7 => ?_) (fun hb7 => ?_)
   ·replace H:=ifT H hb7
    refine Ok.seq ?_
    refine .rg [(4,(.v (.int .i64 x8_1)))] [] ?_
    refine Ok.ret ?_
    obtain rfl:=Option.some.inj H
    exact⟨.inl rfl,⟨_,(.cons (.tmp rfl) .nil),rfl⟩,trivial⟩
   ·replace H:=ifF H hb7
    refine Ok.skip ?_
    refine .rg [(0,(L 9 e_api_Step a0)),(1,(.clo 66 [])),(7,(.v (.int .i64 (a0.length:Int)))),(8,(.v (.int .i64 (IntKind.i64.wrap (x8_1 + 1)))))] [] ?_
    exact⟨m3,Nat.lt_succ_self m3,(IntKind.i64.wrap (x8_1 + 1)),rfl,H⟩
  ·replace H:=ifF H hb8
   refine Ok.exit ?_
   refine Ok.seq ?_
   refine .rg [(4,(.v (.int .i64 (-1))))] [] ?_
   refine Ok.ret ?_
   obtain rfl:=Option.some.inj H
   exact⟨.inl rfl,⟨_,(.cons (.tmp rfl) .nil),rfl⟩,trivial⟩
def slices_ContainsFunc_65 (k:Nat) (a0:List T_api_Step):Option Bool:=((slices_IndexFunc_76 k a0).bind fun (t1:Int) => some (decide (t1 ≥ 0)))
theorem slices_ContainsFunc_65.ok {k:Nat} {a0:List T_api_Step} {r:Bool} (H:slices_ContainsFunc_65 k a0=some r):Vx.Fn Try.prog 65 [(L 9 e_api_Step a0),(.clo 66 [])] [] (.v (.bool r)) []:=by
 unfold slices_ContainsFunc_65 at H
 refine Vx.Fn.of_okR Try.func65 rfl (Nat.le_of_ble_eq_true rfl) ?_
 refine Ok.seq ?_
 refine .rg [(0,(L 9 e_api_Step a0)),(1,(.clo 66 []))] [] ?_
 refine Ok.seq ?_
 obtain⟨t1,h2,H⟩:=bindE H
 refine Ok.region (σ':=⟨[(4,(.v (.bool (decide (t1 ≥ 0)))))],[]⟩) ?_ ?_
 ·refine .rn 2 ?_
  refine .cg (GOk.call rfl rfl cl76 rfl (slices_IndexFunc_76.ok h2) rfl) rfl rfl ?_
  refine .rn 2 ?_
  exact .dn
 refine Ok.ret ?_
 obtain rfl:=Option.some.inj H
 exact⟨.inl rfl,⟨_,(.cons (.tmp rfl) .nil),rfl⟩,trivial⟩
def match_names (k:Nat) (a0:List T_api_Step):Option Bool:=((slices_ContainsFunc_65 k a0).bind fun (t1:Bool) => some (!t1))
theorem match_names.ok {k:Nat} {a0:List T_api_Step} {r:Bool} (H:match_names k a0=some r):Vx.Fn Try.prog 44 [(L 9 e_api_Step a0)] [] (.v (.bool r)) []:=by
 unfold match_names at H
 refine Vx.Fn.of_okR Try.func44 rfl (Nat.le_of_ble_eq_true rfl) ?_
 refine Ok.seq ?_
 refine .rg [(0,(L 9 e_api_Step a0))] [] ?_
 refine Ok.seq ?_
 obtain⟨t1,h2,H⟩:=bindE H
 refine Ok.region (σ':=⟨[(2,(.v (.bool (!t1))))],[]⟩) ?_ ?_
 ·refine .rn 1 ?_
  refine .cg (GOk.call rfl rfl cl65 rfl (slices_ContainsFunc_65.ok h2) rfl) rfl rfl ?_
  refine .rn 2 ?_
  exact .dn
 refine Ok.ret ?_
 obtain rfl:=Option.some.inj H
 exact⟨.inl rfl,⟨_,(.cons (.tmp rfl) .nil),rfl⟩,trivial⟩
def match_named (a0:T_api_Node) (a1:T_api_Step):Option Bool:=some ((a0.Kind == 1) && (a1.Any || (a0.Name.Space == a1.Name.Space && (a0.Name.Local == a1.Name.Local && true))))
theorem match_named.ok {a0:T_api_Node} {a1:T_api_Step} {r:Bool} (H:match_named a0 a1=some r):Vx.Fn Try.prog 77 [(.agg (e_api_Node a0)),(.agg (e_api_Step a1))] [] (.v (.bool r)) []:=by
 unfold match_named at H
 refine Vx.Fn.of_okR Try.func77 rfl (Nat.le_of_ble_eq_true rfl) ?_
 refine Ok.seq ?_
 refine Ok.region (σ':=⟨[(2,(.bref 2 0)),(3,(.bref 3 0))],[(2,(bxN a0)),(3,(.box .ex (c_api_Step a1)))]⟩) ?_ ?_
 ·refine OpsOk.cut1 0 (.agg (c_api_Node a0)) (DLe.of_eq (congrArg D.agg (e_api_Node_c _).symm)) ?_
  refine .rn 3 ?_
  exact .dn
 refine Ok.seq ?_
 refine Ok.region (σ':=⟨[(4,(.v (.bool ((a0.Kind == 1) && (a1.Any || (a0.Name.Space == a1.Name.Space && (a0.Name.Local == a1.Name.Local && true)))))))],[]⟩) ?_ ?_
 ·refine .rn 4 ?_
  refine OpsOk.consI rfl rfl rfl (.one rfl) rfl (fun hw1 => (VOk.g (VOk.to (VOk.fieldB rfl Try.underlying45 rfl sz4 rfl rfl) rfl))) ?_
  refine OpsOk.consI rfl rfl rfl (.one rfl) rfl (fun hw1 => (GOk.fr (fr':=[(9,(.bref 3 1))]) ⟨DLe.of_eq (cT hw1).symm,trivial⟩ (VOk.g (VOk.loadB (d:=(.v (.bool a1.Any))) rfl Try.underlying4 rfl rfl rfl rfl)))) ?_
  refine OpsOk.consI rfl rfl rfl (.one rfl) rfl (fun hw1 => (GOk.fr (fr':=[(10,(.v (.bool a1.Any)))]) ⟨DLe.of_eq (cT hw1).symm,trivial⟩ (VOk.g (VOk.mv (d:=(.v (.bool a1.Any))) rfl rfl)))) ?_
  refine OpsOk.consI rfl rfl rfl (.two rfl) rfl (fun hw2 => (VOk.g (VOk.to (VOk.fieldB rfl Try.underlying27 rfl sz23 rfl rfl) rfl))) ?_
  refine OpsOk.consI rfl rfl rfl (.two rfl) rfl (fun hw2 => (GOk.fr (fr':=[(12,(.bref 2 1))]) ⟨DLe.of_eq (cT hw2).symm,trivial⟩ (VOk.g (VOk.to (d':=(.agg (e_api_Name a0.Name))) (.loadBAgg rfl Try.underlying23 rfl sz23 rfl rfl rfl) rfl)))) ?_
  refine OpsOk.consI rfl rfl rfl (.two rfl) rfl (fun hw2 => (VOk.g (VOk.to (VOk.fieldB rfl Try.underlying45 rfl sz23 rfl rfl) rfl))) ?_
  refine OpsOk.consI rfl rfl rfl (.two rfl) rfl (fun hw2 => (GOk.fr (fr':=[(14,(.bref 3 2))]) ⟨DLe.of_eq (cT hw2).symm,trivial⟩ (VOk.g (VOk.to (d':=(.agg (e_api_Name a1.Name))) (.loadBAgg rfl Try.underlying23 rfl sz23 rfl rfl rfl) rfl)))) ?_
  refine OpsOk.consI rfl rfl rfl (.two rfl) rfl (fun hw2 => (GOk.fr (fr':=[(13,(.agg (e_api_Name a0.Name))),(15,(.agg (e_api_Name a1.Name)))]) ⟨DLe.of_eq (cT hw2).symm,DLe.of_eq (cT hw2).symm,trivial⟩ (VOk.g (VOk.eqS' (op:=.eql) (d:=(.v (.bool (a0.Name.Space == a1.Name.Space && (a0.Name.Local == a1.Name.Local && true))))) rfl (.inl rfl) (eqt23 9998) ag23 eg23 rfl rfl rfl rfl)))) ?_
  refine OpsOk.consI rfl rfl rfl (.one rfl) rfl (fun hw1 => (VOk.g (VOk.to (VOk.pickI (b:=a1.Any) (p:=true) (q:=(a0.Name.Space == a1.Name.Space && (a0.Name.Local == a1.Name.Local && true))) rfl (cT hw1) (fun hp3 => rfl) (fun hp3 => (cT (and_i hw1 (f_beq hp3))))) (pickOr a1.Any (a0.Name.Space == a1.Name.Space && (a0.Name.Local == a1.Name.Local && true)))))) ?_
  refine .cv (VOk.to (VOk.pickI (b:=(a0.Kind == 1)) (p:=(a1.Any || (a0.Name.Space == a1.Name.Space && (a0.Name.Local == a1.Name.Local && true)))) (q:=false) rfl rfl (fun hp4 => (cT (t_beq hp4))) (fun hp4 => rfl)) (pickAnd (a0.Kind == 1) (a1.Any || (a0.Name.Space == a1.Name.Space && (a0.Name.Local == a1.Name.Local && true))))) rfl rfl ?_
  refine .rn 1 ?_
  exact .dn
 refine Ok.ret ?_
 obtain rfl:=Option.some.inj H
 exact⟨.inl rfl,⟨_,(.cons (.tmp rfl) .nil),rfl⟩,trivial⟩
def tree_Get.l0 (k:Nat) (a0:T_api_Node):Nat→Str→Str→Int→Option (Str × Bool)
 | 0,_,_,_ => none
 | m7 + 1,y3_0_2,y3_1_3,x11_1 => (if (decide (x11_1 < (a0.Attrs.length:Int)))=true then (if (0:Int) ≤ x11_1 ∧ x11_1 < (a0.Attrs.length:Int) then (if (((rd a0.Attrs x11_1).Name).Space == (T_api_Name.mk y3_0_2 y3_1_3).Space && (((rd a0.Attrs x11_1).Name).Local == (T_api_Name.mk y3_0_2 y3_1_3).Local && true))=true then some ((rd a0.Attrs x11_1).Value,true) else tree_Get.l0 k a0 m7 y3_0_2 y3_1_3 (IntKind.i64.wrap (x11_1 + 1))) else none) else some (([]:Str),false))
def tree_Get (k:Nat) (a0:T_api_Node) (a1:T_api_Name):Option (Str × Bool):=tree_Get.l0 k a0 k a1.Space a1.Local 0
theorem tree_Get.ok {k:Nat} {a0:T_api_Node} {a1:T_api_Name} {r:Str × Bool} (H:tree_Get k a0 a1=some r):Vx.Fn Try.prog 14 [(.agg (e_api_Node a0)),(.agg (e_api_Name a1))] [] (.tup [(S r.1),(.v (.bool r.2))]) []:=by
 unfold tree_Get at H
 refine Vx.Fn.of_okR Try.func14 rfl (Nat.le_of_ble_eq_true rfl) ?_
 refine Ok.seq ?_
 refine Ok.region (σ':=⟨[(2,(.bref 2 0)),(3,(.bref 3 0))],[(2,(bxN a0)),(3,(.box .ex [(S a1.Space),(S a1.Local)]))]⟩) ?_ ?_
 ·refine OpsOk.cut1 0 (.agg (c_api_Node a0)) (DLe.of_eq (congrArg D.agg (e_api_Node_c _).symm)) ?_
  refine .rn 4 ?_
  exact .dn
 refine Ok.seq ?_
 refine Ok.seq ?_
 refine Ok.region (σ':=⟨[(3,(.bref 3 0)),(9,(L 3 e_api_Attr a0.Attrs)),(10,(.v (.int .i64 (a0.Attrs.length:Int)))),(11,(.v (.int .i64 0)))],[(3,(.box .ex [(S a1.Space),(S a1.Local)]))]⟩) ?_ ?_
 ·refine .rn 2 ?_
  refine .cv (VOk.lenL (e:=e_api_Attr) (xs:=a0.Attrs) rfl Try.underlying24 rfl) rfl rfl ?_
  refine .rn 1 ?_
  exact .dn
 refine Ok.block ?_
 refine Ok.loop (fun m7 σ => ∃ (y3_0_2:Str) (y3_1_3:Str) (x11_1:Int),σ=⟨[(3,(.bref 3 0)),(9,(L 3 e_api_Attr a0.Attrs)),(10,(.v (.int .i64 (a0.Attrs.length:Int)))),(11,(.v (.int .i64 x11_1)))],[(3,(.box .ex [(S y3_0_2),(S y3_1_3)]))]⟩ ∧ tree_Get.l0 k a0 m7 y3_0_2 y3_1_3 x11_1=some r) k ⟨a1.Space,a1.Local,0,rfl,H⟩ ?_
 rintro m7 σ ⟨y3_0_2,y3_1_3,x11_1,rfl,H⟩
 cases m7 with
 | zero => exact absurd H (by simp [tree_Get.l0])
 | succ m7 =>
  unfold tree_Get.l0 at H
  refine Ok.seq ?_
  refine .rg [(3,(.bref 3 0)),(9,(L 3 e_api_Attr a0.Attrs)),(10,(.v (.int .i64 (a0.Attrs.length:Int)))),(11,(.v (.int .i64 x11_1))),(12,(.v (.bool (decide (x11_1 < (a0.Attrs.length:Int))))))] [(3,(.box .ex [(S y3_0_2),(S y3_1_3)]))] ?_
  refine Ok.seq ?_
  refine Ok.test (b:=(decide (x11_1 < (a0.Attrs.length:Int)))) rfl (fun hb10 => ?_) (fun hb10 => ?_)
  ·replace H:=ifT H hb10
   refine Ok.skip ?_
   refine Ok.seq ?_
   refine Ok.block ?_
   refine Ok.seq ?_
   obtain⟨c8,H⟩:=assertE H
   refine Ok.region (σ':=⟨[(3,(.bref 3 0)),(7,(.bref 7 0)),(9,(L 3 e_api_Attr a0.Attrs)),(10,(.v (.int .i64 (a0.Attrs.length:Int)))),(11,(.v (.int .i64 x11_1)))],[(3,(.box .ex [(S y3_0_2),(S y3_1_3)])),(7,(.box .ex (c_api_Attr (rd a0.Attrs x11_1))))]⟩) ?_ ?_
   ·refine .cv (VOk.indexL (sz:=3) (e:=e_api_Attr) (xs:=a0.Attrs) (i:=x11_1) rfl Try.underlying24 sz68 rfl rfl c8) rfl rfl ?_
    refine .rn 3 ?_
    exact .dn
   refine Ok.seq ?_
   refine Ok.region (σ':=⟨[(3,(.bref 3 0)),(7,(.bref 7 0)),(9,(L 3 e_api_Attr a0.Attrs)),(10,(.v (.int .i64 (a0.Attrs.length:Int)))),(11,(.v (.int .i64 x11_1))),(18,(.v (.bool (((rd a0.Attrs x11_1).Name).Space == (T_api_Name.mk y3_0_2 y3_1_3).Space && (((rd a0.Attrs x11_1).Name).Local == (T_api_Name.mk y3_0_2 y3_1_3).Local && true)))))],[(3,(.box .ex [(S y3_0_2),(S y3_1_3)])),(7,(.box .ex (c_api_Attr (rd a0.Attrs x11_1))))]⟩) ?_ ?_
   ·refine .rn 3 ?_
    refine .cv (VOk.eqS' (op:=.eql) (d:=(.v (.bool (((rd a0.Attrs x11_1).Name).Space == (T_api_Name.mk y3_0_2 y3_1_3).Space && (((rd a0.Attrs x11_1).Name).Local == (T_api_Name.mk y3_0_2 y3_1_3).Local && true))))) rfl (.inl rfl) (eqt23 9998) ag23 eg23 rfl rfl rfl rfl) rfl rfl ?_
    exact .dn
   refine Ok.test (b:=(((rd a0.Attrs x11_1).Name).Space == (T_api_Name.mk y3_0_2 y3_1_3).Space && (((rd a0.Attrs x11_1).Name).Local == (T_api_Name.mk y3_0_2 y3_1_3).Local && true))) rfl (fun hb9 => ?_) (fun hb9 => ?_)
   ·replace H:=ifT H hb9
    refine Ok.seq ?_
    refine .rg [(4,(S ((rd a0.Attrs x11_1).Value))),(5,(.v (.bool true)))] [] ?_
    refine Ok.ret ?_
    obtain rfl:=Option.some.inj H
    exact⟨.inl rfl,⟨_,(.cons (.tmp rfl) (.cons (.tmp rfl) .nil)),rfl⟩,trivial⟩
   ·replace H:=ifF H hb9
    refine Ok.skip ?_
    refine .rg [(3,(.bref 3 0)),(9,(L 3 e_api_Attr a0.Attrs)),(10,(.v (.int .i64 (a0.Attrs.length:Int)))),(11,(.v (.int .i64 (IntKind.i64.wrap (x11_1 + 1)))))] [(3,(.box .ex [(S y3_0_2),(S y3_1_3)]))] ?_
    exact⟨m7,Nat.lt_succ_self m7,y3_0_2,y3_1_3,(IntKind.i64.wrap (x11_1 + 1)),rfl,H⟩
  ·replace H:=ifF H hb10
   refine Ok.exit ?_
   refine Ok.seq ?_
   refine .rg [(4,S0),(5,(.v (.bool false)))] [] ?_
   refine Ok.ret ?_
   obtain rfl:=Option.some.inj H
   exact⟨.inl rfl,⟨_,(.cons (.tmp rfl) (.cons (.tmp rfl) .nil)),rfl⟩,trivial⟩
def match_tested (k:Nat) (a0:T_api_Node) (a1:T_api_Step):Option Bool:=(if (!a1.By)=true then some true else ((tree_Get k a0 a1.Attr).bind fun (t1:Str × Bool) => some (t1.2 && (t1.1 == a1.Value))))
theorem match_tested.ok {k:Nat} {a0:T_api_Node} {a1:T_api_Step} {r:Bool} (H:match_tested k a0 a1=some r):Vx.Fn Try.prog 78 [(.agg (e_api_Node a0)),(.agg (e_api_Step a1))] [] (.v (.bool r)) []:=by
 unfold match_tested at H
 refine Vx.Fn.of_okR Try.func78 rfl (Nat.le_of_ble_eq_true rfl) ?_
 refine Ok.seq ?_
 refine Ok.region (σ':=⟨[(2,(.bref 2 0)),(3,(.bref 3 0))],[(2,(bxN a0)),(3,(.box .ex (c_api_Step a1)))]⟩) ?_ ?_
 ·refine OpsOk.cut1 0 (.agg (c_api_Node a0)) (DLe.of_eq (congrArg D.agg (e_api_Node_c _).symm)) ?_
  refine .rn 3 ?_
  exact .dn
 refine Ok.seq ?_
 refine Ok.seq ?_
 refine .rg [(2,(.bref 2 0)),(3,(.bref 3 0)),(9,(.v (.bool (!a1.By))))] [(2,(bxN a0)),(3,(.box .ex (c_api_Step a1)))] ?_
 refine Ok.test (b:=(!a1.By)) rfl (fun hb5 => ?_) (fun hb5 => ?_)
 ·replace H:=ifT H hb5
  refine Ok.seq ?_
  refine .rg [(4,(.v (.bool true)))] [] ?_
  refine Ok.ret ?_
  obtain rfl:=Option.some.inj H
  exact⟨.inl rfl,⟨_,(.cons (.tmp rfl) .nil),rfl⟩,trivial⟩
 ·replace H:=ifF H hb5
  refine Ok.skip ?_
  refine Ok.seq ?_
  obtain⟨t1,h2,H⟩:=bindE H
  refine Ok.region (σ':=⟨[(3,(.bref 3 0)),(5,(S t1.1)),(6,(.v (.bool t1.2)))],[(3,(.box .ex (c_api_Step a1)))]⟩) ?_ ?_
  ·refine .cv (VOk.to (d':=(.agg (e_api_Node a0))) (.loadBAgg rfl Try.underlying27 rfl sz27 rfl rfl rfl) (congrArg D.agg (e_api_Node_c a0).symm)) rfl rfl ?_
   refine .rn 2 ?_
   refine .cg (GOk.call rfl rfl cl14 rfl (tree_Get.ok h2) rfl) rfl rfl ?_
   refine .rn 5 ?_
   exact .dn
  refine Ok.seq ?_
  refine Ok.region (σ':=⟨[(4,(.v (.bool (t1.2 && (t1.1 == a1.Value)))))],[]⟩) ?_ ?_
  ·refine .rn 2 ?_
   refine OpsOk.consI rfl rfl rfl (.one rfl) rfl (fun hw3 => (VOk.g (VOk.mv (d:=(S t1.1)) rfl rfl))) ?_
   refine OpsOk.consI rfl rfl rfl (.one rfl) rfl (fun hw3 => (VOk.g (VOk.to (VOk.fieldB rfl Try.underlying45 rfl sz9 rfl rfl) rfl))) ?_
   refine OpsOk.consI rfl rfl rfl (.one rfl) rfl (fun hw3 => (GOk.fr (fr':=[(20,(.bref 3 8))]) ⟨DLe.of_eq (cT hw3).symm,trivial⟩ (VOk.g (VOk.loadB (d:=(S a1.Value)) rfl Try.underlying9 rfl rfl rfl rfl)))) ?_
   refine OpsOk.consI rfl rfl rfl (.one rfl) rfl (fun hw3 => (GOk.fr (fr':=[(19,(S t1.1)),(21,(S a1.Value))]) ⟨DLe.of_eq (cT hw3).symm,DLe.of_eq (cT hw3).symm,trivial⟩ (VOk.g (VOk.strOp (op:=.eql) (a:=t1.1) (b:=a1.Value) rfl rfl rfl rfl)))) ?_
   refine .cv (VOk.to (VOk.pickI (b:=t1.2) (p:=(t1.1 == a1.Value)) (q:=false) rfl rfl (fun hp4 => (cT (t_beq hp4))) (fun hp4 => rfl)) (pickAnd t1.2 (t1.1 == a1.Value))) rfl rfl ?_
   refine .rn 1 ?_
   exact .dn
  refine Ok.ret ?_
  obtain rfl:=Option.some.inj H
  exact⟨.inl rfl,⟨_,(.cons (.tmp rfl) .nil),rfl⟩,trivial⟩
def match_numbers.l0 (k:Nat) (a0:List T_api_Node):Nat→Int→Bool→Str→Str→Int→Bool→Str→Str→Str→List Int→Int→Int→Option (List Int)
 | 0,_,_,_,_,_,_,_,_,_,_,_,_ => none
 | m25 + 1,y3_0_3,y3_1_4,y3_2_5,y3_3_6,y3_4_7,y3_5_8,y3_6_9,y3_7_10,y3_8_11,y5_12,x11_2,x6_1 => (if (decide (x11_2 < (a0.length:Int)))=true then (if (0:Int) ≤ x11_2 ∧ x11_2 < (a0.length:Int) then ((match_named (rd a0 x11_2) (T_api_Step.mk y3_0_3 y3_1_4 (T_api_Name.mk y3_2_5 y3_3_6) y3_4_7 y3_5_8 (T_api_Name.mk y3_6_9 y3_7_10) y3_8_11)).bind fun (t27:Bool) => (if (!t27)=true then match_numbers.l0 k a0 m25 y3_0_3 y3_1_4 y3_2_5 y3_3_6 y3_4_7 y3_5_8 y3_6_9 y3_7_10 y3_8_11 y5_12 (IntKind.i64.wrap (x11_2 + 1)) x6_1 else (((if (((y3_4_7 == 0) || (y3_4_7 == (IntKind.i64.wrap (x6_1 + 1)))) == true)=true then match_tested k (rd a0 x11_2) (T_api_Step.mk y3_0_3 y3_1_4 (T_api_Name.mk y3_2_5 y3_3_6) y3_4_7 y3_5_8 (T_api_Name.mk y3_6_9 y3_7_10) y3_8_11) else some default)).bind fun (t32:Bool) => (if (((y3_4_7 == 0) || (y3_4_7 == (IntKind.i64.wrap (x6_1 + 1)))) && t32)=true then (if (y5_12.length + ([x11_2]:List Int).length) * 8 ≤ 140737488355328 then match_numbers.l0 k a0 m25 y3_0_3 y3_1_4 y3_2_5 y3_3_6 y3_4_7 y3_5_8 y3_6_9 y3_7_10 y3_8_11 (y5_12 ++ ([x11_2]:List Int)) (IntKind.i64.wrap (x11_2 + 1)) (IntKind.i64.wrap (x6_1 + 1)) else none) else match_numbers.l0 k a0 m25 y3_0_3 y3_1_4 y3_2_5 y3_3_6 y3_4_7 y3_5_8 y3_6_9 y3_7_10 y3_8_11 y5_12 (IntKind.i64.wrap (x11_2 + 1)) (IntKind.i64.wrap (x6_1 + 1)))))) else none) else some y5_12)
def match_numbers (k:Nat) (a0:List T_api_Node) (a1:T_api_Step):Option (List Int):=match_numbers.l0 k a0 k a1.Kind a1.Any a1.Name.Space a1.Name.Local a1.Pos a1.By a1.Attr.Space a1.Attr.Local a1.Value ([]:List Int) 0 0
theorem match_numbers.ok {k:Nat} {a0:List T_api_Node} {a1:T_api_Step} {r:(List Int)} (H:match_numbers k a0 a1=some r):Vx.Fn Try.prog 67 [(L 6 e_api_Node a0),(.agg (e_api_Step a1))] [] (L 1 (eI .i64) r) []:=by
 unfold match_numbers at H
 refine Vx.Fn.of_okR Try.func67 rfl (Nat.le_of_ble_eq_true rfl) ?_
 refine Ok.seq ?_
 refine .rg [(0,(L 6 e_api_Node a0)),(3,(.bref 3 0))] [(3,(.box .ex (c_api_Step a1)))] ?_
 refine Ok.seq ?_
 refine Ok.region (σ':=⟨[(0,(L 6 e_api_Node a0)),(3,(.bref 3 0)),(5,(.sref 5))],[(3,(.box .ex (c_api_Step a1))),(5,(.rows true 3 1 (([]:List Int).map (eI .i64))))]⟩) ?_ ?_
 ·refine OpsOk.cons rfl (.nilT 5 3 1 (.inl rfl) rfl rfl) ?_
  exact .dn
 refine Ok.seq ?_
 refine .rg [(0,(L 6 e_api_Node a0)),(3,(.bref 3 0)),(5,(.sref 5)),(6,(.v (.int .i64 0)))] [(3,(.box .ex (c_api_Step a1))),(5,(.rows true 3 1 (([]:List Int).map (eI .i64))))] ?_
 refine Ok.seq ?_
 refine Ok.seq ?_
 refine Ok.region (σ':=⟨[(3,(.bref 3 0)),(5,(.sref 5)),(6,(.v (.int .i64 0))),(9,(L 6 e_api_Node a0)),(10,(.v (.int .i64 (a0.length:Int)))),(11,(.v (.int .i64 0)))],[(3,(.box .ex (c_api_Step a1))),(5,(.rows true 3 1 (([]:List Int).map (eI .i64))))]⟩) ?_ ?_
 ·refine .rn 1 ?_
  refine .cv (VOk.lenL (e:=e_api_Node) (xs:=a0) rfl Try.underlying25 rfl) rfl rfl ?_
  refine .rn 1 ?_
  exact .dn
 refine Ok.block ?_
 refine Ok.loop (fun m25 σ => ∃ (y3_0_3:Int) (y3_1_4:Bool) (y3_2_5:Str) (y3_3_6:Str) (y3_4_7:Int) (y3_5_8:Bool) (y3_6_9:Str) (y3_7_10:Str) (y3_8_11:Str) (y5_12:List Int) (x11_2:Int) (x6_1:Int),σ=⟨[(3,(.bref 3 0)),(5,(.sref 5)),(6,(.v (.int .i64 x6_1))),(9,(L 6 e_api_Node a0)),(10,(.v (.int .i64 (a0.length:Int)))),(11,(.v (.int .i64 x11_2)))],[(3,(.box .ex [(.v (.int .i64 y3_0_3)),(.v (.bool y3_1_4)),(S y3_2_5),(S y3_3_6),(.v (.int .i64 y3_4_7)),(.v (.bool y3_5_8)),(S y3_6_9),(S y3_7_10),(S y3_8_11)])),(5,(.rows true 3 1 (y5_12.map (eI .i64))))]⟩ ∧ match_numbers.l0 k a0 m25 y3_0_3 y3_1_4 y3_2_5 y3_3_6 y3_4_7 y3_5_8 y3_6_9 y3_7_10 y3_8_11 y5_12 x11_2 x6_1=some r) k ⟨a1.Kind,a1.Any,a1.Name.Space,a1.Name.Local,a1.Pos,a1.By,a1.Attr.Space,a1.Attr.Local,a1.Value,([]:List Int),0,0,rfl,H⟩ ?_
 rintro m25 σ ⟨y3_0_3,y3_1_4,y3_2_5,y3_3_6,y3_4_7,y3_5_8,y3_6_9,y3_7_10,y3_8_11,y5_12,x11_2,x6_1,rfl,H⟩
 cases m25 with
 | zero => exact absurd H (by simp [match_numbers.l0])
 | succ m25 =>
  unfold match_numbers.l0 at H
  refine Ok.seq ?_
  refine .rg [(3,(.bref 3 0)),(5,(.sref 5)),(6,(.v (.int .i64 x6_1))),(9,(L 6 e_api_Node a0)),(10,(.v (.int .i64 (a0.length:Int)))),(11,(.v (.int .i64 x11_2))),(12,(.v (.bool (decide (x11_2 < (a0.length:Int))))))] [(3,(.box .ex [(.v (.int .i64 y3_0_3)),(.v (.bool y3_1_4)),(S y3_2_5),(S y3_3_6),(.v (.int .i64 y3_4_7)),(.v (.bool y3_5_8)),(S y3_6_9),(S y3_7_10),(S y3_8_11)])),(5,(.rows true 3 1 (y5_12.map (eI .i64))))] ?_
  refine Ok.seq ?_
  refine Ok.test (b:=(decide (x11_2 < (a0.length:Int)))) rfl (fun hb38 => ?_) (fun hb38 => ?_)
  ·replace H:=ifT H hb38
   refine Ok.skip ?_
   refine Ok.seq ?_
   refine Ok.block ?_
   refine Ok.seq ?_
   obtain⟨c26,H⟩:=assertE H
   refine Ok.region (σ':=⟨[(3,(.bref 3 0)),(5,(.sref 5)),(6,(.v (.int .i64 x6_1))),(7,(.v (.int .i64 x11_2))),(8,(.bref 8 0)),(9,(L 6 e_api_Node a0)),(10,(.v (.int .i64 (a0.length:Int)))),(11,(.v (.int .i64 x11_2)))],[(3,(.box .ex [(.v (.int .i64 y3_0_3)),(.v (.bool y3_1_4)),(S y3_2_5),(S y3_3_6),(.v (.int .i64 y3_4_7)),(.v (.bool y3_5_8)),(S y3_6_9),(S y3_7_10),(S y3_8_11)])),(5,(.rows true 3 1 (y5_12.map (eI .i64)))),(8,(.box .ex (c_api_Node (rd a0 x11_2))))]⟩) ?_ ?_
   ·refine .rn 1 ?_
    refine .cv (VOk.indexL (sz:=6) (e:=e_api_Node) (xs:=a0) (i:=x11_2) rfl Try.underlying25 sz27 rfl rfl c26) rfl rfl ?_
    refine .rn 3 ?_
    refine OpsOk.cut1 15 (.agg [(.v (.int .i64 ((rd a0 x11_2).Kind))),(S ((rd a0 x11_2).Name.Space)),(S ((rd a0 x11_2).Name.Local)),(L 3 e_api_Attr ((rd a0 x11_2).Attrs)),(L 6 e_api_Node ((rd a0 x11_2).Kids)),(S ((rd a0 x11_2).Text))]) (DLe.of_eq (congrArg D.agg (e_api_Node_c _).symm)) ?_
    refine .rn 1 ?_
    exact .dn
   refine Ok.seq ?_
   refine Ok.seq ?_
   obtain⟨t27,h28,H⟩:=bindE H
   refine Ok.region (σ':=⟨[(3,(.bref 3 0)),(5,(.sref 5)),(6,(.v (.int .i64 x6_1))),(7,(.v (.int .i64 x11_2))),(8,(.bref 8 0)),(9,(L 6 e_api_Node a0)),(10,(.v (.int .i64 (a0.length:Int)))),(11,(.v (.int .i64 x11_2))),(19,(.v (.bool (!t27))))],[(3,(.box .ex [(.v (.int .i64 y3_0_3)),(.v (.bool y3_1_4)),(S y3_2_5),(S y3_3_6),(.v (.int .i64 y3_4_7)),(.v (.bool y3_5_8)),(S y3_6_9),(S y3_7_10),(S y3_8_11)])),(5,(.rows true 3 1 (y5_12.map (eI .i64)))),(8,(.box .ex (c_api_Node (rd a0 x11_2))))]⟩) ?_ ?_
   ·refine .cv (VOk.to (d':=(.agg (e_api_Node (rd a0 x11_2)))) (.loadBAgg rfl Try.underlying27 rfl sz27 rfl rfl rfl) (congrArg D.agg (e_api_Node_c (rd a0 x11_2)).symm)) rfl rfl ?_
    refine .rn 1 ?_
    refine .cg (GOk.call rfl rfl cl77 rfl (match_named.ok h28) rfl) rfl rfl ?_
    refine .rn 1 ?_
    exact .dn
   refine Ok.test (b:=(!t27)) rfl (fun hb37 => ?_) (fun hb37 => ?_)
   ·replace H:=ifT H hb37
    refine Ok.exit ?_
    refine .rg [(3,(.bref 3 0)),(5,(.sref 5)),(6,(.v (.int .i64 x6_1))),(9,(L 6 e_api_Node a0)),(10,(.v (.int .i64 (a0.length:Int)))),(11,(.v (.int .i64 (IntKind.i64.wrap (x11_2 + 1)))))] [(3,(.box .ex [(.v (.int .i64 y3_0_3)),(.v (.bool y3_1_4)),(S y3_2_5),(S y3_3_6),(.v (.int .i64 y3_4_7)),(.v (.bool y3_5_8)),(S y3_6_9),(S y3_7_10),(S y3_8_11)])),(5,(.rows true 3 1 (y5_12.map (eI .i64))))] ?_
    exact⟨m25,Nat.lt_succ_self m25,y3_0_3,y3_1_4,y3_2_5,y3_3_6,y3_4_7,y3_5_8,y3_6_9,y3_7_10,y3_8_11,y5_12,(IntKind.i64.wrap (x11_2 + 1)),x6_1,rfl,H⟩
   ·replace H:=ifF H hb37
    refine Ok.skip ?_
    refine Ok.seq ?_
    refine .rg [(3,(.bref 3 0)),(5,(.sref 5)),(6,(.v (.int .i64 (IntKind.i64.wrap (x6_1 + 1))))),(7,(.v (.int .i64 x11_2))),(8,(.bref 8 0)),(9,(L 6 e_api_Node a0)),(10,(.v (.int .i64 (a0.length:Int)))),(11,(.v (.int .i64 x11_2)))] [(3,(.box .ex [(.v (.int .i64 y3_0_3)),(.v (.bool y3_1_4)),(S y3_2_5),(S y3_3_6),(.v (.int .i64 y3_4_7)),(.v (.bool y3_5_8)),(S y3_6_9),(S y3_7_10),(S y3_8_11)])),(5,(.rows true 3 1 (y5_12.map (eI .i64)))),(8,(.box .ex (c_api_Node (rd a0 x11_2))))] ?_
    refine Ok.seq ?_
    obtain⟨t32,h33,H⟩:=bindE H
    refine Ok.region (σ':=⟨[(3,(.bref 3 0)),(5,(.sref 5)),(6,(.v (.int .i64 (IntKind.i64.wrap (x6_1 + 1))))),(7,(.v (.int .i64 x11_2))),(9,(L 6 e_api_Node a0)),(10,(.v (.int .i64 (a0.length:Int)))),(11,(.v (.int .i64 x11_2))),(35,(.v (.bool (((y3_4_7 == 0) || (y3_4_7 == (IntKind.i64.wrap (x6_1 + 1)))) && t32))))],[(3,(.box .ex [(.v (.int .i64 y3_0_3)),(.v (.bool y3_1_4)),(S y3_2_5),(S y3_3_6),(.v (.int .i64 y3_4_7)),(.v (.bool y3_5_8)),(S y3_6_9),(S y3_7_10),(S y3_8_11)])),(5,(.rows true 3 1 (y5_12.map (eI .i64))))]⟩) ?_ ?_
    ·refine .rn 4 ?_
     refine OpsOk.consI rfl rfl rfl (.one rfl) rfl (fun hw29 => (VOk.g (VOk.to (VOk.fieldB rfl Try.underlying45 rfl sz3 rfl rfl) rfl))) ?_
     refine OpsOk.consI rfl rfl rfl (.one rfl) rfl (fun hw29 => (GOk.fr (fr':=[(26,(.bref 3 4))]) ⟨DLe.of_eq (cT hw29).symm,trivial⟩ (VOk.g (VOk.loadB (d:=(.v (.int .i64 y3_4_7))) rfl Try.underlying3 rfl rfl rfl rfl)))) ?_
     refine OpsOk.consI rfl rfl rfl (.one rfl) rfl (fun hw29 => (VOk.g (VOk.mv (d:=(.v (.int .i64 (IntKind.i64.wrap (x6_1 + 1))))) rfl rfl))) ?_
     refine OpsOk.consI rfl rfl rfl (.one rfl) rfl (fun hw29 => (GOk.fr (fr':=[(27,(.v (.int .i64 y3_4_7))),(28,(.v (.int .i64 (IntKind.i64.wrap (x6_1 + 1)))))]) ⟨DLe.of_eq (cT hw29).symm,DLe.of_eq (cT hw29).symm,trivial⟩ (VOk.g (VOk.arith (op:=.eql) (k:=.i64) (a:=y3_4_7) (b:=(IntKind.i64.wrap (x6_1 + 1))) rfl rfl rfl rfl)))) ?_
     refine .cv (VOk.to (VOk.pickI (b:=(y3_4_7 == 0)) (p:=true) (q:=(y3_4_7 == (IntKind.i64.wrap (x6_1 + 1)))) rfl rfl (fun hp30 => rfl) (fun hp30 => (cT (f_beq hp30)))) (pickOr (y3_4_7 == 0) (y3_4_7 == (IntKind.i64.wrap (x6_1 + 1))))) rfl rfl ?_
     refine .rn 1 ?_
     refine OpsOk.consI rfl rfl rfl (.one rfl) rfl (fun hw31 => (VOk.g (VOk.to (d':=(.agg (e_api_Node (rd a0 x11_2)))) (.loadBAgg rfl Try.underlying27 rfl sz27 rfl rfl rfl) (congrArg D.agg (e_api_Node_c (rd a0 x11_2)).symm)))) ?_
     refine OpsOk.consI rfl rfl rfl (.one rfl) rfl (fun hw31 => (VOk.g (VOk.to (d':=(.agg (e_api_Step (T_api_Step.mk y3_0_3 y3_1_4 (T_api_Name.mk y3_2_5 y3_3_6) y3_4_7 y3_5_8 (T_api_Name.mk y3_6_9 y3_7_10) y3_8_11)))) (.loadBAgg rfl Try.underlying45 rfl sz45 rfl rfl rfl) rfl))) ?_
     refine OpsOk.consI rfl rfl rfl (.one rfl) rfl (fun hw31 => (GOk.fr (fr':=[(32,(.agg (e_api_Node (rd a0 x11_2)))),(33,(.agg (e_api_Step (T_api_Step.mk y3_0_3 y3_1_4 (T_api_Name.mk y3_2_5 y3_3_6) y3_4_7 y3_5_8 (T_api_Name.mk y3_6_9 y3_7_10) y3_8_11))))]) ⟨DLe.of_eq (cT hw31).symm,DLe.of_eq (cT hw31).symm,trivial⟩ (GOk.call rfl rfl cl78 rfl (match_tested.ok (ifT h33 hw31)) rfl))) ?_
     refine .cv (VOk.to (VOk.pickI (b:=((y3_4_7 == 0) || (y3_4_7 == (IntKind.i64.wrap (x6_1 + 1))))) (p:=t32) (q:=false) rfl rfl (fun hp34 => (cT (t_beq hp34))) (fun hp34 => rfl)) (pickAnd ((y3_4_7 == 0) || (y3_4_7 == (IntKind.i64.wrap (x6_1 + 1)))) t32)) rfl rfl ?_
     exact .dn
    refine Ok.test (b:=(((y3_4_7 == 0) || (y3_4_7 == (IntKind.i64.wrap (x6_1 + 1)))) && t32)) rfl (fun hb36 => ?_) (fun hb36 => ?_)
    ·replace H:=ifT H hb36
     obtain⟨c35,H⟩:=assertE H
     refine Ok.region (σ':=⟨[(3,(.bref 3 0)),(5,(.sref 5)),(6,(.v (.int .i64 (IntKind.i64.wrap (x6_1 + 1))))),(9,(L 6 e_api_Node a0)),(10,(.v (.int .i64 (a0.length:Int)))),(11,(.v (.int .i64 x11_2)))],[(3,(.box .ex [(.v (.int .i64 y3_0_3)),(.v (.bool y3_1_4)),(S y3_2_5),(S y3_3_6),(.v (.int .i64 y3_4_7)),(.v (.bool y3_5_8)),(S y3_6_9),(S y3_7_10),(S y3_8_11)])),(5,(.rows true 3 1 ((y5_12 ++ ([x11_2]:List Int)).map (eI .i64))))]⟩) ?_ ?_
     ·refine .rn 2 ?_
      refine .cg (GOk.to (d':=(L 1 (eI .i64) ([x11_2]:List Int))) (GOk.lit rfl Try.underlying34 sz3 zs3 rfl rfl rfl rfl) rfl) rfl rfl ?_
      refine OpsOk.cons rfl (OpOk.appendL (e:=(eI .i64)) (xs:=y5_12) (ys:=([x11_2]:List Int)) rfl Try.underlying34 elt3 rfl rfl rfl c35 rfl) ?_
      refine .rn 1 ?_
      exact .dn
     refine .rg [(3,(.bref 3 0)),(5,(.sref 5)),(6,(.v (.int .i64 (IntKind.i64.wrap (x6_1 + 1))))),(9,(L 6 e_api_Node a0)),(10,(.v (.int .i64 (a0.length:Int)))),(11,(.v (.int .i64 (IntKind.i64.wrap (x11_2 + 1)))))] [(3,(.box .ex [(.v (.int .i64 y3_0_3)),(.v (.bool y3_1_4)),(S y3_2_5),(S y3_3_6),(.v (.int .i64 y3_4_7)),(.v (.bool y3_5_8)),(S y3_6_9),(S y3_7_10),(S y3_8_11)])),(5,(.rows true 3 1 ((y5_12 ++ ([x11_2]:List Int)).map (eI .i64))))] ?_
     exact⟨m25,Nat.lt_succ_self m25,y3_0_3,y3_1_4,y3_2_5,y3_3_6,y3_4_7,y3_5_8,y3_6_9,y3_7_10,y3_8_11,(y5_12 ++ ([x11_2]:List Int)),(IntKind.i64.wrap (x11_2 + 1)),(IntKind.i64.wrap (x6_1 + 1)),rfl,H⟩
    ·replace H:=ifF H hb36
     refine Ok.skip ?_
     refine .rg [(3,(.bref 3 0)),(5,(.sref 5)),(6,(.v (.int .i64 (IntKind.i64.wrap (x6_1 + 1))))),(9,(L 6 e_api_Node a0)),(10,(.v (.int .i64 (a0.length:Int)))),(11,(.v (.int .i64 (IntKind.i64.wrap (x11_2 + 1)))))] [(3,(.box .ex [(.v (.int .i64 y3_0_3)),(.v (.bool y3_1_4)),(S y3_2_5),(S y3_3_6),(.v (.int .i64 y3_4_7)),(.v (.bool y3_5_8)),(S y3_6_9),(S y3_7_10),(S y3_8_11)])),(5,(.rows true 3 1 (y5_12.map (eI .i64))))] ?_
     exact⟨m25,Nat.lt_succ_self m25,y3_0_3,y3_1_4,y3_2_5,y3_3_6,y3_4_7,y3_5_8,y3_6_9,y3_7_10,y3_8_11,y5_12,(IntKind.i64.wrap (x11_2 + 1)),(IntKind.i64.wrap (x6_1 + 1)),rfl,H⟩
  ·replace H:=ifF H hb38
   refine Ok.exit ?_
   refine Ok.seq ?_
   refine .rg [(4,(.sref 5))] [(5,(.rows true 3 1 (y5_12.map (eI .i64))))] ?_
   refine Ok.frzL 5 (e:=(eI .i64)) (xs:=y5_12) rfl ?_
   refine Ok.ret ?_
   obtain rfl:=Option.some.inj H
   exact⟨.inl rfl,⟨_,(.cons (.tmp rfl) .nil),rfl⟩,trivial⟩
def match_find_1.l1 (k:Nat) (c0:List (List Int)→Int→Option (List (List Int))) (a0:List T_api_Node) (a1:List T_api_Step) (t2:(List Int)) (x16_4:Int) (t13:(List (List Int))):Nat→List (List Int)→Int→Option (List (List Int))
 | 0,_,_ => none
 | m19 + 1,y5_16,x37_15 => (if (decide (x37_15 < (t13.length:Int)))=true then (if (0:Int) ≤ x37_15 ∧ x37_15 < (t13.length:Int) then (if (([(rd t2 x16_4)]:List Int).length + (rd t13 x37_15).length) * 8 ≤ 140737488355328 then (if (y5_16.length + ([(([(rd t2 x16_4)]:List Int) ++ (rd t13 x37_15))]:List (List Int)).length) * 24 ≤ 140737488355328 then match_find_1.l1 k c0 a0 a1 t2 x16_4 t13 m19 (y5_16 ++ ([(([(rd t2 x16_4)]:List Int) ++ (rd t13 x37_15))]:List (List Int))) (IntKind.i64.wrap (x37_15 + 1)) else none) else none) else none) else c0 y5_16 (IntKind.i64.wrap (x16_4 + 1)))
def match_find_1.l0 (k:Nat) (self:List T_api_Node→List T_api_Step→Option (List (List Int))) (a0:List T_api_Node) (a1:List T_api_Step) (t2:(List Int)):Nat→List (List Int)→Int→Option (List (List Int))
 | 0,_,_ => none
 | m8 + 1,y5_5,x16_4 => (if (decide (x16_4 < (t2.length:Int)))=true then (if (0:Int) ≤ x16_4 ∧ x16_4 < (t2.length:Int) then (if ((a1.length:Int) == 1)=true then (if (y5_5.length + ([([(rd t2 x16_4)]:List Int)]:List (List Int)).length) * 24 ≤ 140737488355328 then match_find_1.l0 k self a0 a1 t2 m8 (y5_5 ++ ([([(rd t2 x16_4)]:List Int)]:List (List Int))) (IntKind.i64.wrap (x16_4 + 1)) else none) else (if (0:Int) ≤ (rd t2 x16_4) ∧ (rd t2 x16_4) < (a0.length:Int) then (if (0:Int) ≤ 1 ∧ (1:Int) ≤ (a1.length:Int) ∧ (a1.length:Int) ≤ (a1.length:Int) then ((self ((rd a0 (rd t2 x16_4)).Kids) (sl a1 1 (a1.length:Int))).bind fun (t13:(List (List Int))) => match_find_1.l1 k (match_find_1.l0 k self a0 a1 t2 m8) a0 a1 t2 x16_4 t13 k y5_5 0) else none) else none)) else none) else some y5_5)
def match_find_1:Nat→List T_api_Node→List T_api_Step→Option (List (List Int))
 | 0,_,_ => none
 | k + 1,a0,a1 => (if (0:Int) ≤ 0 ∧ 0 < (a1.length:Int) then ((match_numbers k a0 (rd a1 0)).bind fun (t2:(List Int)) => match_find_1.l0 k (match_find_1 k) a0 a1 t2 k ([]:List (List Int)) 0) else none)
theorem match_find_1.ok {k:Nat} {a0:List T_api_Node} {a1:List T_api_Step} {r:(List (List Int))} (H:match_find_1 k a0 a1=some r):Vx.Fn Try.prog 45 [(L 6 e_api_Node a0),(L 9 e_api_Step a1)] [] (L 1 (eL 1 (eI .i64)) r) []:=by
 induction k generalizing a0 a1 r with
 | zero => exact absurd H (by simp [match_find_1])
 | succ k ih =>
  unfold match_find_1 at H
  refine Vx.Fn.of_okR Try.func45 rfl (Nat.le_of_ble_eq_true rfl) ?_
  refine Ok.seq ?_
  refine .rg [(0,(L 6 e_api_Node a0)),(1,(L 9 e_api_Step a1))] [] ?_
  refine Ok.seq ?_
  refine Ok.region (σ':=⟨[(0,(L 6 e_api_Node a0)),(1,(L 9 e_api_Step a1)),(5,(.sref 5))],[(5,(.rows true 34 1 (([]:List (List Int)).map (eL 1 (eI .i64)))))]⟩) ?_ ?_
  ·refine OpsOk.cons rfl (.nilT 5 34 1 (.inl rfl) rfl rfl) ?_
   exact .dn
  refine Ok.seq ?_
  refine Ok.seq ?_
  obtain⟨c1,H⟩:=assertE H
  obtain⟨t2,h3,H⟩:=bindE H
  refine Ok.region (σ':=⟨[(0,(L 6 e_api_Node a0)),(1,(L 9 e_api_Step a1)),(5,(.sref 5)),(14,(L 1 (eI .i64) t2)),(15,(.v (.int .i64 (t2.length:Int)))),(16,(.v (.int .i64 0)))],[(5,(.rows true 34 1 (([]:List (List Int)).map (eL 1 (eI .i64)))))]⟩) ?_ ?_
  ·refine .rn 2 ?_
   refine .cv (VOk.indexL (sz:=9) (e:=e_api_Step) (xs:=a1) (i:=0) rfl Try.underlying28 sz45 rfl rfl c1) rfl rfl ?_
   refine .rn 1 ?_
   refine .cg (GOk.call rfl rfl cl67 rfl (match_numbers.ok h3) rfl) rfl rfl ?_
   refine .cv (VOk.lenL (e:=(eI .i64)) (xs:=t2) rfl Try.underlying34 rfl) rfl rfl ?_
   refine .rn 1 ?_
   exact .dn
  refine Ok.block ?_
  refine Ok.loop (fun m8 σ => ∃ (y5_5:List (List Int)) (x16_4:Int),σ=⟨[(0,(L 6 e_api_Node a0)),(1,(L 9 e_api_Step a1)),(5,(.sref 5)),(14,(L 1 (eI .i64) t2)),(15,(.v (.int .i64 (t2.length:Int)))),(16,(.v (.int .i64 x16_4)))],[(5,(.rows true 34 1 (y5_5.map (eL 1 (eI .i64)))))]⟩ ∧ match_find_1.l0 k (match_find_1 k) a0 a1 t2 m8 y5_5 x16_4=some r) k ⟨([]:List (List Int)),0,rfl,H⟩ ?_
  rintro m8 σ ⟨y5_5,x16_4,rfl,H⟩
  cases m8 with
  | zero => exact absurd H (by simp [match_find_1.l0])
  | succ m8 =>
   unfold match_find_1.l0 at H
   refine Ok.seq ?_
   refine .rg [(0,(L 6 e_api_Node a0)),(1,(L 9 e_api_Step a1)),(5,(.sref 5)),(14,(L 1 (eI .i64) t2)),(15,(.v (.int .i64 (t2.length:Int)))),(16,(.v (.int .i64 x16_4))),(17,(.v (.bool (decide (x16_4 < (t2.length:Int))))))] [(5,(.rows true 34 1 (y5_5.map (eL 1 (eI .i64)))))] ?_
   refine Ok.seq ?_
   refine Ok.test (b:=(decide (x16_4 < (t2.length:Int)))) rfl (fun hb25 => ?_) (fun hb25 => ?_)
   ·replace H:=ifT H hb25
    refine Ok.skip ?_
    refine Ok.seq ?_
    refine Ok.block ?_
    refine Ok.seq ?_
    obtain⟨c9,H⟩:=assertE H
    refine Ok.region (σ':=⟨[(0,(L 6 e_api_Node a0)),(1,(L 9 e_api_Step a1)),(5,(.sref 5)),(7,(.v (.int .i64 (rd t2 x16_4)))),(14,(L 1 (eI .i64) t2)),(15,(.v (.int .i64 (t2.length:Int)))),(16,(.v (.int .i64 x16_4)))],[(5,(.rows true 34 1 (y5_5.map (eL 1 (eI .i64)))))]⟩) ?_ ?_
    ·refine .cv (VOk.indexL (sz:=1) (e:=(eI .i64)) (xs:=t2) (i:=x16_4) rfl Try.underlying34 sz3 rfl rfl c9) rfl rfl ?_
     refine .rn 2 ?_
     exact .dn
    refine Ok.seq ?_
    refine Ok.seq ?_
    refine Ok.region (σ':=⟨[(0,(L 6 e_api_Node a0)),(1,(L 9 e_api_Step a1)),(5,(.sref 5)),(7,(.v (.int .i64 (rd t2 x16_4)))),(14,(L 1 (eI .i64) t2)),(15,(.v (.int .i64 (t2.length:Int)))),(16,(.v (.int .i64 x16_4))),(22,(.v (.bool ((a1.length:Int) == 1))))],[(5,(.rows true 34 1 (y5_5.map (eL 1 (eI .i64)))))]⟩) ?_ ?_
    ·refine .rn 1 ?_
     refine .cv (VOk.lenL (e:=e_api_Step) (xs:=a1) rfl Try.underlying28 rfl) rfl rfl ?_
     refine .rn 1 ?_
     exact .dn
    refine Ok.test (b:=((a1.length:Int) == 1)) rfl (fun hb24 => ?_) (fun hb24 => ?_)
    ·replace H:=ifT H hb24
     refine Ok.seq ?_
     obtain⟨c10,H⟩:=assertE H
     refine Ok.region (σ':=⟨[(0,(L 6 e_api_Node a0)),(1,(L 9 e_api_Step a1)),(5,(.sref 5)),(14,(L 1 (eI .i64) t2)),(15,(.v (.int .i64 (t2.length:Int)))),(16,(.v (.int .i64 x16_4)))],[(5,(.rows true 34 1 ((y5_5 ++ ([([(rd t2 x16_4)]:List Int)]:List (List Int))).map (eL 1 (eI .i64)))))]⟩) ?_ ?_
     ·refine .rn 2 ?_
      refine .cg (GOk.to (d':=(L 1 (eI .i64) ([(rd t2 x16_4)]:List Int))) (GOk.lit rfl Try.underlying34 sz3 zs3 rfl rfl rfl rfl) rfl) rfl rfl ?_
      refine .cg (GOk.to (d':=(L 1 (eL 1 (eI .i64)) ([([(rd t2 x16_4)]:List Int)]:List (List Int)))) (GOk.lit rfl Try.underlying58 sz34 zs34 rfl rfl rfl rfl) rfl) rfl rfl ?_
      refine OpsOk.cons rfl (OpOk.appendL (e:=(eL 1 (eI .i64))) (xs:=y5_5) (ys:=([([(rd t2 x16_4)]:List Int)]:List (List Int))) rfl Try.underlying58 elt34 rfl rfl rfl c10 rfl) ?_
      refine .rn 1 ?_
      exact .dn
     refine Ok.exit ?_
     refine .rg [(0,(L 6 e_api_Node a0)),(1,(L 9 e_api_Step a1)),(5,(.sref 5)),(14,(L 1 (eI .i64) t2)),(15,(.v (.int .i64 (t2.length:Int)))),(16,(.v (.int .i64 (IntKind.i64.wrap (x16_4 + 1)))))] [(5,(.rows true 34 1 ((y5_5 ++ ([([(rd t2 x16_4)]:List Int)]:List (List Int))).map (eL 1 (eI .i64)))))] ?_
     exact⟨m8,Nat.lt_succ_self m8,(y5_5 ++ ([([(rd t2 x16_4)]:List Int)]:List (List Int))),(IntKind.i64.wrap (x16_4 + 1)),rfl,H⟩
    ·replace H:=ifF H hb24
     refine Ok.skip ?_
     refine Ok.seq ?_
     obtain⟨c11,H⟩:=assertE H
     obtain⟨c12,H⟩:=assertE H
     obtain⟨t13,h14,H⟩:=bindE H
     refine Ok.drawE (σ':=⟨[(0,(L 6 e_api_Node a0)),(1,(L 9 e_api_Step a1)),(5,(.sref 5)),(7,(.v (.int .i64 (rd t2 x16_4)))),(14,(L 1 (eI .i64) t2)),(15,(.v (.int .i64 (t2.length:Int)))),(16,(.v (.int .i64 x16_4))),(35,(L 1 (eL 1 (eI .i64)) t13)),(36,(.v (.int .i64 (t13.length:Int)))),(37,(.v (.int .i64 0)))],[(5,(.rows true 34 1 (y5_5.map (eL 1 (eI .i64)))))]⟩) [⟨true,[(0,(L 6 e_api_Node a0))],(L 6 e_api_Node a0)⟩,⟨true,[(7,(.v (.int .i64 (rd t2 x16_4))))],(.v (.int .i64 (rd t2 x16_4)))⟩,⟨true,[(28,(L 6 e_api_Node a0)),(29,(.v (.int .i64 (rd t2 x16_4))))],(.fp (e_api_Node (rd a0 (rd t2 x16_4))) 0)⟩,⟨true,[(30,(.fp (e_api_Node (rd a0 (rd t2 x16_4))) 0))],(.fp (e_api_Node (rd a0 (rd t2 x16_4))) 4)⟩,⟨true,[(31,(.fp (e_api_Node (rd a0 (rd t2 x16_4))) 4))],(L 6 e_api_Node ((rd a0 (rd t2 x16_4)).Kids))⟩,⟨true,[(1,(L 9 e_api_Step a1))],(L 9 e_api_Step a1)⟩,⟨true,[(33,(L 9 e_api_Step a1))],(L 9 e_api_Step (sl a1 1 (a1.length:Int)))⟩,⟨true,[(32,(L 6 e_api_Node ((rd a0 (rd t2 x16_4)).Kids))),(34,(L 9 e_api_Step (sl a1 1 (a1.length:Int))))],(L 1 (eL 1 (eI .i64)) t13)⟩,⟨true,[(35,(L 1 (eL 1 (eI .i64)) t13))],(.v (.int .i64 (t13.length:Int)))⟩,⟨true,[],(.v (.int .i64 0))⟩] [[],[],[0,1],[2],[3],[],[5],[4,6],[7],[]] mixed (by kernel_rfl) ?_ ?_
     ·refine TxtE.cons rfl ⟨.same _,trivial⟩ rfl (VOk.g (VOk.mv (d:=(L 6 e_api_Node a0)) rfl rfl)) ?_
      refine TxtE.cons rfl ⟨.same _,trivial⟩ rfl (VOk.g (VOk.mv (d:=(.v (.int .i64 (rd t2 x16_4)))) rfl rfl)) ?_
      refine TxtE.cons rfl ⟨.same _,.same _,trivial⟩ rfl (VOk.g (VOk.indexL (sz:=6) (e:=e_api_Node) (xs:=a0) (i:=(rd t2 x16_4)) rfl Try.underlying25 sz27 rfl rfl c11)) ?_
      refine TxtE.cons rfl ⟨.same _,trivial⟩ rfl (VOk.g (VOk.to (VOk.fieldFp rfl Try.underlying27 rfl sz25 rfl) rfl)) ?_
      refine TxtE.cons rfl ⟨.same _,trivial⟩ rfl (VOk.g (VOk.to (d':=(L 6 e_api_Node ((rd a0 (rd t2 x16_4)).Kids))) (VOk.loadFp (d:=(L 6 r_api_Node ((rd a0 (rd t2 x16_4)).Kids))) rfl Try.underlying25 rfl rfl rfl) (by rw [r_api_Node_eq]))) ?_
      refine TxtE.cons rfl ⟨.same _,trivial⟩ rfl (VOk.g (VOk.mv (d:=(L 9 e_api_Step a1)) rfl rfl)) ?_
      refine TxtE.cons rfl ⟨.same _,trivial⟩ rfl (VOk.g (VOk.sliceL (e:=e_api_Step) (xs:=a1) (l:=1) (h:=(a1.length:Int)) rfl Try.underlying28 sz45 rfl rfl rfl c12)) ?_
      refine TxtE.cons rfl ⟨.same _,.same _,trivial⟩ rfl (GOk.call rfl rfl cl45 rfl (@ih _ _ _ h14) rfl) ?_
      refine TxtE.cons rfl ⟨.same _,trivial⟩ rfl (VOk.g (VOk.lenL (e:=(eL 1 (eI .i64))) (xs:=t13) rfl Try.underlying58 rfl)) ?_
      refine TxtE.cons rfl trivial rfl (VOk.g (VOk.mv (d:=(.v (.int .i64 0))) rfl rfl)) ?_
      exact .done (.rf rfl rfl)
     refine Ok.block ?_
     refine Ok.le (σ':=⟨[(0,(L 6 e_api_Node a0)),(1,(L 9 e_api_Step a1)),(5,(.sref 5)),(7,(.v (.int .i64 (rd t2 x16_4)))),(14,(L 1 (eI .i64) t2)),(15,(.v (.int .i64 (t2.length:Int)))),(16,(.v (.int .i64 x16_4))),(35,(L 1 (eL 1 (eI .i64)) t13)),(36,(.v (.int .i64 (t13.length:Int)))),(37,(.v (.int .i64 0)))],[(5,(.rows true 34 1 (y5_5.map (eL 1 (eI .i64)))))]⟩) (.rf rfl rfl) ?_
     refine Ok.loop (fun m19 σ => ∃ (y5_16:List (List Int)) (x37_15:Int),σ=⟨[(0,(L 6 e_api_Node a0)),(1,(L 9 e_api_Step a1)),(5,(.sref 5)),(7,(.v (.int .i64 (rd t2 x16_4)))),(14,(L 1 (eI .i64) t2)),(15,(.v (.int .i64 (t2.length:Int)))),(16,(.v (.int .i64 x16_4))),(35,(L 1 (eL 1 (eI .i64)) t13)),(36,(.v (.int .i64 (t13.length:Int)))),(37,(.v (.int .i64 x37_15)))],[(5,(.rows true 34 1 (y5_16.map (eL 1 (eI .i64)))))]⟩ ∧ match_find_1.l1 k (match_find_1.l0 k (match_find_1 k) a0 a1 t2 m8) a0 a1 t2 x16_4 t13 m19 y5_16 x37_15=some r) k ⟨y5_5,0,rfl,H⟩ ?_
     rintro m19 σ ⟨y5_16,x37_15,rfl,H⟩
     cases m19 with
     | zero => exact absurd H (by simp [match_find_1.l1])
     | succ m19 =>
      unfold match_find_1.l1 at H
      refine Ok.seq ?_
      refine .rg [(0,(L 6 e_api_Node a0)),(1,(L 9 e_api_Step a1)),(5,(.sref 5)),(7,(.v (.int .i64 (rd t2 x16_4)))),(14,(L 1 (eI .i64) t2)),(15,(.v (.int .i64 (t2.length:Int)))),(16,(.v (.int .i64 x16_4))),(35,(L 1 (eL 1 (eI .i64)) t13)),(36,(.v (.int .i64 (t13.length:Int)))),(37,(.v (.int .i64 x37_15))),(38,(.v (.bool (decide (x37_15 < (t13.length:Int))))))] [(5,(.rows true 34 1 (y5_16.map (eL 1 (eI .i64)))))] ?_
      refine Ok.seq ?_
      refine Ok.test (b:=(decide (x37_15 < (t13.length:Int)))) rfl (fun hb23 => ?_) (fun hb23 => ?_)
      ·replace H:=ifT H hb23
       refine Ok.skip ?_
       refine Ok.seq ?_
       refine Ok.block ?_
       refine Ok.seq ?_
       obtain⟨c20,H⟩:=assertE H
       refine Ok.region (σ':=⟨[(0,(L 6 e_api_Node a0)),(1,(L 9 e_api_Step a1)),(5,(.sref 5)),(7,(.v (.int .i64 (rd t2 x16_4)))),(9,(L 1 (eI .i64) (rd t13 x37_15))),(14,(L 1 (eI .i64) t2)),(15,(.v (.int .i64 (t2.length:Int)))),(16,(.v (.int .i64 x16_4))),(35,(L 1 (eL 1 (eI .i64)) t13)),(36,(.v (.int .i64 (t13.length:Int)))),(37,(.v (.int .i64 x37_15)))],[(5,(.rows true 34 1 (y5_16.map (eL 1 (eI .i64)))))]⟩) ?_ ?_
       ·refine .cv (VOk.indexL (sz:=1) (e:=(eL 1 (eI .i64))) (xs:=t13) (i:=x37_15) rfl Try.underlying58 sz34 rfl rfl c20) rfl rfl ?_
        refine .rn 2 ?_
        exact .dn
       obtain⟨c21,H⟩:=assertE H
       obtain⟨c22,H⟩:=assertE H
       refine Ok.region (σ':=⟨[(0,(L 6 e_api_Node a0)),(1,(L 9 e_api_Step a1)),(5,(.sref 5)),(7,(.v (.int .i64 (rd t2 x16_4)))),(14,(L 1 (eI .i64) t2)),(15,(.v (.int .i64 (t2.length:Int)))),(16,(.v (.int .i64 x16_4))),(35,(L 1 (eL 1 (eI .i64)) t13)),(36,(.v (.int .i64 (t13.length:Int)))),(37,(.v (.int .i64 x37_15)))],[(5,(.rows true 34 1 ((y5_16 ++ ([(([(rd t2 x16_4)]:List Int) ++ (rd t13 x37_15))]:List (List Int))).map (eL 1 (eI .i64)))))]⟩) ?_ ?_
       ·refine .rn 2 ?_
        refine .cg (GOk.to (d':=(.clist 1 (List.map (eI .i64) ([(rd t2 x16_4)]:List Int)))) (GOk.litC rfl Try.underlying34 sz3 zs3 rfl rfl rfl rfl) rfl) rfl rfl ?_
        refine .rn 1 ?_
        refine .cg (GOk.appendC (e:=(eI .i64)) (xs:=([(rd t2 x16_4)]:List Int)) (ys:=(rd t13 x37_15)) rfl Try.underlying34 elt3 (.same _) rfl c21) rfl rfl ?_
        refine .cg (GOk.to (d':=(L 1 (eL 1 (eI .i64)) ([(([(rd t2 x16_4)]:List Int) ++ (rd t13 x37_15))]:List (List Int)))) (GOk.lit rfl Try.underlying58 sz34 zs34 rfl rfl rfl rfl) rfl) rfl rfl ?_
        refine OpsOk.cons rfl (OpOk.appendL (e:=(eL 1 (eI .i64))) (xs:=y5_16) (ys:=([(([(rd t2 x16_4)]:List Int) ++ (rd t13 x37_15))]:List (List Int))) rfl Try.underlying58 elt34 rfl rfl rfl c22 rfl) ?_
        refine .rn 1 ?_
        exact .dn
       refine .rg [(0,(L 6 e_api_Node a0)),(1,(L 9 e_api_Step a1)),(5,(.sref 5)),(7,(.v (.int .i64 (rd t2 x16_4)))),(14,(L 1 (eI .i64) t2)),(15,(.v (.int .i64 (t2.length:Int)))),(16,(.v (.int .i64 x16_4))),(35,(L 1 (eL 1 (eI .i64)) t13)),(36,(.v (.int .i64 (t13.length:Int)))),(37,(.v (.int .i64 (IntKind.i64.wrap (x37_15 + 1)))))] [(5,(.rows true 34 1 ((y5_16 ++ ([(([(rd t2 x16_4)]:List Int) ++ (rd t13 x37_15))]:List (List Int))).map (eL 1 (eI .i64)))))] ?_
       exact⟨m19,Nat.lt_succ_self m19,(y5_16 ++ ([(([(rd t2 x16_4)]:List Int) ++ (rd t13 x37_15))]:List (List Int))),(IntKind.i64.wrap (x37_15 + 1)),rfl,H⟩
      ·replace H:=ifF H hb23
       refine Ok.exit ?_
       refine .rg [(0,(L 6 e_api_Node a0)),(1,(L 9 e_api_Step a1)),(5,(.sref 5)),(14,(L 1 (eI .i64) t2)),(15,(.v (.int .i64 (t2.length:Int)))),(16,(.v (.int .i64 (IntKind.i64.wrap (x16_4 + 1)))))] [(5,(.rows true 34 1 (y5_16.map (eL 1 (eI .i64)))))] ?_
       exact⟨m8,Nat.lt_succ_self m8,y5_16,(IntKind.i64.wrap (x16_4 + 1)),rfl,H⟩
   ·replace H:=ifF H hb25
    refine Ok.exit ?_
    refine Ok.seq ?_
    refine .rg [(4,(.sref 5))] [(5,(.rows true 34 1 (y5_5.map (eL 1 (eI .i64)))))] ?_
    refine Ok.frzL 5 (e:=(eL 1 (eI .i64))) (xs:=y5_5) rfl ?_
    refine Ok.ret ?_
    obtain rfl:=Option.some.inj H
    exact⟨.inl rfl,⟨_,(.cons (.tmp rfl) .nil),rfl⟩,trivial⟩
def match_find_o.l1 (k:Nat) (c0:List (List Int)→Int→Option (List (List Int))) (a0:List T_api_Node) (a1:List T_api_Step) (t2:(List Int)) (x16_4:Int) (t13:(List (List Int))):Nat→List (List Int)→Int→Option (List (List Int))
 | 0,_,_ => none
 | m19 + 1,y5_16,x37_15 => (if (decide (x37_15 < (t13.length:Int)))=true then (if (0:Int) ≤ x37_15 ∧ x37_15 < (t13.length:Int) then (if (([(rd t2 x16_4)]:List Int).length + (rd t13 x37_15).length) * 8 ≤ 140737488355328 then (if (y5_16.length + ([(([(rd t2 x16_4)]:List Int) ++ (rd t13 x37_15))]:List (List Int)).length) * 24 ≤ 140737488355328 then match_find_o.l1 k c0 a0 a1 t2 x16_4 t13 m19 (y5_16 ++ ([(([(rd t2 x16_4)]:List Int) ++ (rd t13 x37_15))]:List (List Int))) (IntKind.i64.wrap (x37_15 + 1)) else none) else none) else none) else c0 y5_16 (IntKind.i64.wrap (x16_4 + 1)))
def match_find_o.l0 (k:Nat) (a0:List T_api_Node) (a1:List T_api_Step) (t2:(List Int)):Nat→List (List Int)→Int→Option (List (List Int))
 | 0,_,_ => none
 | m8 + 1,y5_5,x16_4 => (if (decide (x16_4 < (t2.length:Int)))=true then (if (0:Int) ≤ x16_4 ∧ x16_4 < (t2.length:Int) then (if ((a1.length:Int) == 1)=true then (if (y5_5.length + ([([(rd t2 x16_4)]:List Int)]:List (List Int)).length) * 24 ≤ 140737488355328 then match_find_o.l0 k a0 a1 t2 m8 (y5_5 ++ ([([(rd t2 x16_4)]:List Int)]:List (List Int))) (IntKind.i64.wrap (x16_4 + 1)) else none) else (if (0:Int) ≤ (rd t2 x16_4) ∧ (rd t2 x16_4) < (a0.length:Int) then (if (0:Int) ≤ 1 ∧ (1:Int) ≤ (a1.length:Int) ∧ (a1.length:Int) ≤ (a1.length:Int) then ((match_find_1 k ((rd a0 (rd t2 x16_4)).Kids) (sl a1 1 (a1.length:Int))).bind fun (t13:(List (List Int))) => match_find_o.l1 k (match_find_o.l0 k a0 a1 t2 m8) a0 a1 t2 x16_4 t13 k y5_5 0) else none) else none)) else none) else some y5_5)
def match_find_o (k:Nat) (a0:List T_api_Node) (a1:List T_api_Step):Option (List (List Int)):=(if (0:Int) ≤ 0 ∧ 0 < (a1.length:Int) then ((match_numbers k a0 (rd a1 0)).bind fun (t2:(List Int)) => match_find_o.l0 k a0 a1 t2 k ([]:List (List Int)) 0) else none)
theorem match_find_o.ok {k:Nat} {a0:List T_api_Node} {a1:List T_api_Step} {r:(List (List Int))} (H:match_find_o k a0 a1=some r):Vx.Fn Try.prog 45 [(L 6 e_api_Node a0),(L 9 e_api_Step a1)] [] (.sref 0) [(0,.rows true 34 1 (List.map (eL 1 (eI .i64)) r))]:=by
 unfold match_find_o at H
 refine Vx.Fn.of_okO (t:=4) Try.func45 rfl (Nat.le_of_ble_eq_true rfl) rfl ?_
 refine Ok.seq ?_
 refine Ok.region (σ':=⟨[(0,(L 6 e_api_Node a0)),(1,(L 9 e_api_Step a1))],[]⟩) ?_ ?_
 ·refine OpsOk.cons rfl (.nilT 4 34 1 (.inl rfl) rfl rfl) ?_
  exact .dn
 refine Ok.seq ?_
 refine Ok.region (σ':=⟨[(0,(L 6 e_api_Node a0)),(1,(L 9 e_api_Step a1)),(5,(.sref 5))],[(5,(.rows true 34 1 (([]:List (List Int)).map (eL 1 (eI .i64)))))]⟩) ?_ ?_
 ·refine OpsOk.cons rfl (.nilT 5 34 1 (.inl rfl) rfl rfl) ?_
  exact .dn
 refine Ok.seq ?_
 refine Ok.seq ?_
 obtain⟨c1,H⟩:=assertE H
 obtain⟨t2,h3,H⟩:=bindE H
 refine Ok.region (σ':=⟨[(0,(L 6 e_api_Node a0)),(1,(L 9 e_api_Step a1)),(5,(.sref 5)),(14,(L 1 (eI .i64) t2)),(15,(.v (.int .i64 (t2.length:Int)))),(16,(.v (.int .i64 0)))],[(5,(.rows true 34 1 (([]:List (List Int)).map (eL 1 (eI .i64)))))]⟩) ?_ ?_
 ·refine .rn 2 ?_
  refine .cv (VOk.indexL (sz:=9) (e:=e_api_Step) (xs:=a1) (i:=0) rfl Try.underlying28 sz45 rfl rfl c1) rfl rfl ?_
  refine .rn 1 ?_
  refine .cg (GOk.call rfl rfl cl67 rfl (match_numbers.ok h3) rfl) rfl rfl ?_
  refine .cv (VOk.lenL (e:=(eI .i64)) (xs:=t2) rfl Try.underlying34 rfl) rfl rfl ?_
  refine .rn 1 ?_
  exact .dn
 refine Ok.block ?_
 refine Ok.loop (fun m8 σ => ∃ (y5_5:List (List Int)) (x16_4:Int),σ=⟨[(0,(L 6 e_api_Node a0)),(1,(L 9 e_api_Step a1)),(5,(.sref 5)),(14,(L 1 (eI .i64) t2)),(15,(.v (.int .i64 (t2.length:Int)))),(16,(.v (.int .i64 x16_4)))],[(5,(.rows true 34 1 (y5_5.map (eL 1 (eI .i64)))))]⟩ ∧ match_find_o.l0 k a0 a1 t2 m8 y5_5 x16_4=some r) k ⟨([]:List (List Int)),0,rfl,H⟩ ?_
 rintro m8 σ ⟨y5_5,x16_4,rfl,H⟩
 cases m8 with
 | zero => exact absurd H (by simp [match_find_o.l0])
 | succ m8 =>
  unfold match_find_o.l0 at H
  refine Ok.seq ?_
  refine .rg [(0,(L 6 e_api_Node a0)),(1,(L 9 e_api_Step a1)),(5,(.sref 5)),(14,(L 1 (eI .i64) t2)),(15,(.v (.int .i64 (t2.length:Int)))),(16,(.v (.int .i64 x16_4))),(17,(.v (.bool (decide (x16_4 < (t2.length:Int))))))] [(5,(.rows true 34 1 (y5_5.map (eL 1 (eI .i64)))))] ?_
  refine Ok.seq ?_
  refine Ok.test (b:=(decide (x16_4 < (t2.length:Int)))) rfl (fun hb25 => ?_) (fun hb25 => ?_)
  ·replace H:=ifT H hb25
   refine Ok.skip ?_
   refine Ok.seq ?_
   refine Ok.block ?_
   refine Ok.seq ?_
   obtain⟨c9,H⟩:=assertE H
   refine Ok.region (σ':=⟨[(0,(L 6 e_api_Node a0)),(1,(L 9 e_api_Step a1)),(5,(.sref 5)),(7,(.v (.int .i64 (rd t2 x16_4)))),(14,(L 1 (eI .i64) t2)),(15,(.v (.int .i64 (t2.length:Int)))),(16,(.v (.int .i64 x16_4)))],[(5,(.rows true 34 1 (y5_5.map (eL 1 (eI .i64)))))]⟩) ?_ ?_
   ·refine .cv (VOk.indexL (sz:=1) (e:=(eI .i64)) (xs:=t2) (i:=x16_4) rfl Try.underlying34 sz3 rfl rfl c9) rfl rfl ?_
    refine .rn 2 ?_
    exact .dn
   refine Ok.seq ?_
   refine Ok.seq ?_
   refine Ok.region (σ':=⟨[(0,(L 6 e_api_Node a0)),(1,(L 9 e_api_Step a1)),(5,(.sref 5)),(7,(.v (.int .i64 (rd t2 x16_4)))),(14,(L 1 (eI .i64) t2)),(15,(.v (.int .i64 (t2.length:Int)))),(16,(.v (.int .i64 x16_4))),(22,(.v (.bool ((a1.length:Int) == 1))))],[(5,(.rows true 34 1 (y5_5.map (eL 1 (eI .i64)))))]⟩) ?_ ?_
   ·refine .rn 1 ?_
    refine .cv (VOk.lenL (e:=e_api_Step) (xs:=a1) rfl Try.underlying28 rfl) rfl rfl ?_
    refine .rn 1 ?_
    exact .dn
   refine Ok.test (b:=((a1.length:Int) == 1)) rfl (fun hb24 => ?_) (fun hb24 => ?_)
   ·replace H:=ifT H hb24
    refine Ok.seq ?_
    obtain⟨c10,H⟩:=assertE H
    refine Ok.region (σ':=⟨[(0,(L 6 e_api_Node a0)),(1,(L 9 e_api_Step a1)),(5,(.sref 5)),(14,(L 1 (eI .i64) t2)),(15,(.v (.int .i64 (t2.length:Int)))),(16,(.v (.int .i64 x16_4)))],[(5,(.rows true 34 1 ((y5_5 ++ ([([(rd t2 x16_4)]:List Int)]:List (List Int))).map (eL 1 (eI .i64)))))]⟩) ?_ ?_
    ·refine .rn 2 ?_
     refine .cg (GOk.to (d':=(L 1 (eI .i64) ([(rd t2 x16_4)]:List Int))) (GOk.lit rfl Try.underlying34 sz3 zs3 rfl rfl rfl rfl) rfl) rfl rfl ?_
     refine .cg (GOk.to (d':=(L 1 (eL 1 (eI .i64)) ([([(rd t2 x16_4)]:List Int)]:List (List Int)))) (GOk.lit rfl Try.underlying58 sz34 zs34 rfl rfl rfl rfl) rfl) rfl rfl ?_
     refine OpsOk.cons rfl (OpOk.appendL (e:=(eL 1 (eI .i64))) (xs:=y5_5) (ys:=([([(rd t2 x16_4)]:List Int)]:List (List Int))) rfl Try.underlying58 elt34 rfl rfl rfl c10 rfl) ?_
     refine .rn 1 ?_
     exact .dn
    refine Ok.exit ?_
    refine .rg [(0,(L 6 e_api_Node a0)),(1,(L 9 e_api_Step a1)),(5,(.sref 5)),(14,(L 1 (eI .i64) t2)),(15,(.v (.int .i64 (t2.length:Int)))),(16,(.v (.int .i64 (IntKind.i64.wrap (x16_4 + 1)))))] [(5,(.rows true 34 1 ((y5_5 ++ ([([(rd t2 x16_4)]:List Int)]:List (List Int))).map (eL 1 (eI .i64)))))] ?_
    exact⟨m8,Nat.lt_succ_self m8,(y5_5 ++ ([([(rd t2 x16_4)]:List Int)]:List (List Int))),(IntKind.i64.wrap (x16_4 + 1)),rfl,H⟩
   ·replace H:=ifF H hb24
    refine Ok.skip ?_
    refine Ok.seq ?_
    obtain⟨c11,H⟩:=assertE H
    obtain⟨c12,H⟩:=assertE H
    obtain⟨t13,h14,H⟩:=bindE H
    refine Ok.drawE (σ':=⟨[(0,(L 6 e_api_Node a0)),(1,(L 9 e_api_Step a1)),(5,(.sref 5)),(7,(.v (.int .i64 (rd t2 x16_4)))),(14,(L 1 (eI .i64) t2)),(15,(.v (.int .i64 (t2.length:Int)))),(16,(.v (.int .i64 x16_4))),(35,(L 1 (eL 1 (eI .i64)) t13)),(36,(.v (.int .i64 (t13.length:Int)))),(37,(.v (.int .i64 0)))],[(5,(.rows true 34 1 (y5_5.map (eL 1 (eI .i64)))))]⟩) [⟨true,[(0,(L 6 e_api_Node a0))],(L 6 e_api_Node a0)⟩,⟨true,[(7,(.v (.int .i64 (rd t2 x16_4))))],(.v (.int .i64 (rd t2 x16_4)))⟩,⟨true,[(28,(L 6 e_api_Node a0)),(29,(.v (.int .i64 (rd t2 x16_4))))],(.fp (e_api_Node (rd a0 (rd t2 x16_4))) 0)⟩,⟨true,[(30,(.fp (e_api_Node (rd a0 (rd t2 x16_4))) 0))],(.fp (e_api_Node (rd a0 (rd t2 x16_4))) 4)⟩,⟨true,[(31,(.fp (e_api_Node (rd a0 (rd t2 x16_4))) 4))],(L 6 e_api_Node ((rd a0 (rd t2 x16_4)).Kids))⟩,⟨true,[(1,(L 9 e_api_Step a1))],(L 9 e_api_Step a1)⟩,⟨true,[(33,(L 9 e_api_Step a1))],(L 9 e_api_Step (sl a1 1 (a1.length:Int)))⟩,⟨true,[(32,(L 6 e_api_Node ((rd a0 (rd t2 x16_4)).Kids))),(34,(L 9 e_api_Step (sl a1 1 (a1.length:Int))))],(L 1 (eL 1 (eI .i64)) t13)⟩,⟨true,[(35,(L 1 (eL 1 (eI .i64)) t13))],(.v (.int .i64 (t13.length:Int)))⟩,⟨true,[],(.v (.int .i64 0))⟩] [[],[],[0,1],[2],[3],[],[5],[4,6],[7],[]] mixed (by kernel_rfl) ?_ ?_
    ·refine TxtE.cons rfl ⟨.same _,trivial⟩ rfl (VOk.g (VOk.mv (d:=(L 6 e_api_Node a0)) rfl rfl)) ?_
     refine TxtE.cons rfl ⟨.same _,trivial⟩ rfl (VOk.g (VOk.mv (d:=(.v (.int .i64 (rd t2 x16_4)))) rfl rfl)) ?_
     refine TxtE.cons rfl ⟨.same _,.same _,trivial⟩ rfl (VOk.g (VOk.indexL (sz:=6) (e:=e_api_Node) (xs:=a0) (i:=(rd t2 x16_4)) rfl Try.underlying25 sz27 rfl rfl c11)) ?_
     refine TxtE.cons rfl ⟨.same _,trivial⟩ rfl (VOk.g (VOk.to (VOk.fieldFp rfl Try.underlying27 rfl sz25 rfl) rfl)) ?_
     refine TxtE.cons rfl ⟨.same _,trivial⟩ rfl (VOk.g (VOk.to (d':=(L 6 e_api_Node ((rd a0 (rd t2 x16_4)).Kids))) (VOk.loadFp (d:=(L 6 r_api_Node ((rd a0 (rd t2 x16_4)).Kids))) rfl Try.underlying25 rfl rfl rfl) (by rw [r_api_Node_eq]))) ?_
     refine TxtE.cons rfl ⟨.same _,trivial⟩ rfl (VOk.g (VOk.mv (d:=(L 9 e_api_Step a1)) rfl rfl)) ?_
     refine TxtE.cons rfl ⟨.same _,trivial⟩ rfl (VOk.g (VOk.sliceL (e:=e_api_Step) (xs:=a1) (l:=1) (h:=(a1.length:Int)) rfl Try.underlying28 sz45 rfl rfl rfl c12)) ?_
     refine TxtE.cons rfl ⟨.same _,.same _,trivial⟩ rfl (GOk.call rfl rfl cl45 rfl (match_find_1.ok h14) rfl) ?_
     refine TxtE.cons rfl ⟨.same _,trivial⟩ rfl (VOk.g (VOk.lenL (e:=(eL 1 (eI .i64))) (xs:=t13) rfl Try.underlying58 rfl)) ?_
     refine TxtE.cons rfl trivial rfl (VOk.g (VOk.mv (d:=(.v (.int .i64 0))) rfl rfl)) ?_
     exact .done (.rf rfl rfl)
    refine Ok.block ?_
    refine Ok.le (σ':=⟨[(0,(L 6 e_api_Node a0)),(1,(L 9 e_api_Step a1)),(5,(.sref 5)),(7,(.v (.int .i64 (rd t2 x16_4)))),(14,(L 1 (eI .i64) t2)),(15,(.v (.int .i64 (t2.length:Int)))),(16,(.v (.int .i64 x16_4))),(35,(L 1 (eL 1 (eI .i64)) t13)),(36,(.v (.int .i64 (t13.length:Int)))),(37,(.v (.int .i64 0)))],[(5,(.rows true 34 1 (y5_5.map (eL 1 (eI .i64)))))]⟩) (.rf rfl rfl) ?_
    refine Ok.loop (fun m19 σ => ∃ (y5_16:List (List Int)) (x37_15:Int),σ=⟨[(0,(L 6 e_api_Node a0)),(1,(L 9 e_api_Step a1)),(5,(.sref 5)),(7,(.v (.int .i64 (rd t2 x16_4)))),(14,(L 1 (eI .i64) t2)),(15,(.v (.int .i64 (t2.length:Int)))),(16,(.v (.int .i64 x16_4))),(35,(L 1 (eL 1 (eI .i64)) t13)),(36,(.v (.int .i64 (t13.length:Int)))),(37,(.v (.int .i64 x37_15)))],[(5,(.rows true 34 1 (y5_16.map (eL 1 (eI .i64)))))]⟩ ∧ match_find_o.l1 k (match_find_o.l0 k a0 a1 t2 m8) a0 a1 t2 x16_4 t13 m19 y5_16 x37_15=some r) k ⟨y5_5,0,rfl,H⟩ ?_
    rintro m19 σ ⟨y5_16,x37_15,rfl,H⟩
    cases m19 with
    | zero => exact absurd H (by simp [match_find_o.l1])
    | succ m19 =>
     unfold match_find_o.l1 at H
     refine Ok.seq ?_
     refine .rg [(0,(L 6 e_api_Node a0)),(1,(L 9 e_api_Step a1)),(5,(.sref 5)),(7,(.v (.int .i64 (rd t2 x16_4)))),(14,(L 1 (eI .i64) t2)),(15,(.v (.int .i64 (t2.length:Int)))),(16,(.v (.int .i64 x16_4))),(35,(L 1 (eL 1 (eI .i64)) t13)),(36,(.v (.int .i64 (t13.length:Int)))),(37,(.v (.int .i64 x37_15))),(38,(.v (.bool (decide (x37_15 < (t13.length:Int))))))] [(5,(.rows true 34 1 (y5_16.map (eL 1 (eI .i64)))))] ?_
     refine Ok.seq ?_
     refine Ok.test (b:=(decide (x37_15 < (t13.length:Int)))) rfl (fun hb23 => ?_) (fun hb23 => ?_)
     ·replace H:=ifT H hb23
      refine Ok.skip ?_
      refine Ok.seq ?_
      refine Ok.block ?_
      refine Ok.seq ?_
      obtain⟨c20,H⟩:=assertE H
      refine Ok.region (σ':=⟨[(0,(L 6 e_api_Node a0)),(1,(L 9 e_api_Step a1)),(5,(.sref 5)),(7,(.v (.int .i64 (rd t2 x16_4)))),(9,(L 1 (eI .i64) (rd t13 x37_15))),(14,(L 1 (eI .i64) t2)),(15,(.v (.int .i64 (t2.length:Int)))),(16,(.v (.int .i64 x16_4))),(35,(L 1 (eL 1 (eI .i64)) t13)),(36,(.v (.int .i64 (t13.length:Int)))),(37,(.v (.int .i64 x37_15)))],[(5,(.rows true 34 1 (y5_16.map (eL 1 (eI .i64)))))]⟩) ?_ ?_
      ·refine .cv (VOk.indexL (sz:=1) (e:=(eL 1 (eI .i64))) (xs:=t13) (i:=x37_15) rfl Try.underlying58 sz34 rfl rfl c20) rfl rfl ?_
       refine .rn 2 ?_
       exact .dn
      obtain⟨c21,H⟩:=assertE H
      obtain⟨c22,H⟩:=assertE H
      refine Ok.region (σ':=⟨[(0,(L 6 e_api_Node a0)),(1,(L 9 e_api_Step a1)),(5,(.sref 5)),(7,(.v (.int .i64 (rd t2 x16_4)))),(14,(L 1 (eI .i64) t2)),(15,(.v (.int .i64 (t2.length:Int)))),(16,(.v (.int .i64 x16_4))),(35,(L 1 (eL 1 (eI .i64)) t13)),(36,(.v (.int .i64 (t13.length:Int)))),(37,(.v (.int .i64 x37_15)))],[(5,(.rows true 34 1 ((y5_16 ++ ([(([(rd t2 x16_4)]:List Int) ++ (rd t13 x37_15))]:List (List Int))).map (eL 1 (eI .i64)))))]⟩) ?_ ?_
      ·refine .rn 2 ?_
       refine .cg (GOk.to (d':=(.clist 1 (List.map (eI .i64) ([(rd t2 x16_4)]:List Int)))) (GOk.litC rfl Try.underlying34 sz3 zs3 rfl rfl rfl rfl) rfl) rfl rfl ?_
       refine .rn 1 ?_
       refine .cg (GOk.appendC (e:=(eI .i64)) (xs:=([(rd t2 x16_4)]:List Int)) (ys:=(rd t13 x37_15)) rfl Try.underlying34 elt3 (.same _) rfl c21) rfl rfl ?_
       refine .cg (GOk.to (d':=(L 1 (eL 1 (eI .i64)) ([(([(rd t2 x16_4)]:List Int) ++ (rd t13 x37_15))]:List (List Int)))) (GOk.lit rfl Try.underlying58 sz34 zs34 rfl rfl rfl rfl) rfl) rfl rfl ?_
       refine OpsOk.cons rfl (OpOk.appendL (e:=(eL 1 (eI .i64))) (xs:=y5_16) (ys:=([(([(rd t2 x16_4)]:List Int) ++ (rd t13 x37_15))]:List (List Int))) rfl Try.underlying58 elt34 rfl rfl rfl c22 rfl) ?_
       refine .rn 1 ?_
       exact .dn
      refine .rg [(0,(L 6 e_api_Node a0)),(1,(L 9 e_api_Step a1)),(5,(.sref 5)),(7,(.v (.int .i64 (rd t2 x16_4)))),(14,(L 1 (eI .i64) t2)),(15,(.v (.int .i64 (t2.length:Int)))),(16,(.v (.int .i64 x16_4))),(35,(L 1 (eL 1 (eI .i64)) t13)),(36,(.v (.int .i64 (t13.length:Int)))),(37,(.v (.int .i64 (IntKind.i64.wrap (x37_15 + 1)))))] [(5,(.rows true 34 1 ((y5_16 ++ ([(([(rd t2 x16_4)]:List Int) ++ (rd t13 x37_15))]:List (List Int))).map (eL 1 (eI .i64)))))] ?_
      exact⟨m19,Nat.lt_succ_self m19,(y5_16 ++ ([(([(rd t2 x16_4)]:List Int) ++ (rd t13 x37_15))]:List (List Int))),(IntKind.i64.wrap (x37_15 + 1)),rfl,H⟩
     ·replace H:=ifF H hb23
      refine Ok.exit ?_
      refine .rg [(0,(L 6 e_api_Node a0)),(1,(L 9 e_api_Step a1)),(5,(.sref 5)),(14,(L 1 (eI .i64) t2)),(15,(.v (.int .i64 (t2.length:Int)))),(16,(.v (.int .i64 (IntKind.i64.wrap (x16_4 + 1)))))] [(5,(.rows true 34 1 (y5_16.map (eL 1 (eI .i64)))))] ?_
      exact⟨m8,Nat.lt_succ_self m8,y5_16,(IntKind.i64.wrap (x16_4 + 1)),rfl,H⟩
  ·replace H:=ifF H hb25
   refine Ok.exit ?_
   refine Ok.seq ?_
   refine .rg [(4,(.sref 5))] [(5,(.rows true 34 1 (y5_5.map (eL 1 (eI .i64)))))] ?_
   refine Ok.ret ?_
   obtain rfl:=Option.some.inj H
   exact⟨.inl rfl,5,rfl,rfl⟩
def match_Find.l0 (k:Nat) (t5:List (List Int)):Nat→List (List Int)→Int→Option (List (List Int))
 | 0,_,_ => none
 | m11 + 1,y18_8,x21_7 => (if (decide (x21_7 < (t5.length:Int)))=true then (if (0:Int) ≤ x21_7 ∧ x21_7 < (y18_8.length:Int) then (if (0:Int) ≤ 1 ∧ (1:Int) ≤ ((rd y18_8 x21_7).length:Int) ∧ ((rd y18_8 x21_7).length:Int) ≤ ((rd y18_8 x21_7).length:Int) then (if (0:Int) ≤ x21_7 ∧ x21_7 < (y18_8.length:Int) then match_Find.l0 k t5 m11 (y18_8.set (Int.toNat x21_7) (sl (rd y18_8 x21_7) 1 ((rd y18_8 x21_7).length:Int))) (IntKind.i64.wrap (x21_7 + 1)) else none) else none) else none) else some y18_8)
def match_Find (k:Nat) (a0:T_api_Node) (a1:List T_api_Step):Option (List (List Int)):=(((if (((a1.length:Int) == 0) == false)=true then match_names k a1 else some default)).bind fun (t2:Bool) => (if (((a1.length:Int) == 0) || (!t2))=true then some ([]:List (List Int)) else ((match_find_o k ([a0]:List T_api_Node) a1).bind fun (t5:List (List Int)) => match_Find.l0 k t5 k t5 0)))
theorem match_Find.ok {k:Nat} {a0:T_api_Node} {a1:List T_api_Step} {r:(List (List Int))} (H:match_Find k a0 a1=some r):Vx.Fn Try.prog 25 [(.agg (e_api_Node a0)),(L 9 e_api_Step a1)] [] (L 1 (eL 1 (eI .i64)) r) []:=by
 unfold match_Find at H
 refine Vx.Fn.of_okR Try.func25 rfl (Nat.le_of_ble_eq_true rfl) ?_
 refine Ok.seq ?_
 refine Ok.region (σ':=⟨[(1,(L 9 e_api_Step a1)),(2,(.bref 2 0))],[(2,(bxN a0))]⟩) ?_ ?_
 ·refine OpsOk.cut1 0 (.agg (c_api_Node a0)) (DLe.of_eq (congrArg D.agg (e_api_Node_c _).symm)) ?_
  refine .rn 2 ?_
  exact .dn
 refine Ok.seq ?_
 refine Ok.seq ?_
 obtain⟨t2,h3,H⟩:=bindE H
 refine Ok.region (σ':=⟨[(1,(L 9 e_api_Step a1)),(2,(.bref 2 0)),(14,(.v (.bool (((a1.length:Int) == 0) || (!t2)))))],[(2,(bxN a0))]⟩) ?_ ?_
 ·refine .rn 1 ?_
  refine .cv (VOk.lenL (e:=e_api_Step) (xs:=a1) rfl Try.underlying28 rfl) rfl rfl ?_
  refine .rn 2 ?_
  refine OpsOk.consI rfl rfl rfl (.one rfl) rfl (fun hw1 => (VOk.g (VOk.mv (d:=(L 9 e_api_Step a1)) rfl rfl))) ?_
  refine OpsOk.consI rfl rfl rfl (.one rfl) rfl (fun hw1 => (GOk.fr (fr':=[(11,(L 9 e_api_Step a1))]) ⟨DLe.of_eq (cT hw1).symm,trivial⟩ (GOk.call rfl rfl cl44 rfl (match_names.ok (ifT h3 hw1)) rfl))) ?_
  refine OpsOk.consI rfl rfl rfl (.one rfl) rfl (fun hw1 => (GOk.fr (fr':=[(12,(.v (.bool t2)))]) ⟨DLe.of_eq (cT hw1).symm,trivial⟩ (VOk.g (VOk.not (b:=t2) rfl rfl)))) ?_
  refine .cv (VOk.to (VOk.pickI (b:=((a1.length:Int) == 0)) (p:=true) (q:=(!t2)) rfl rfl (fun hp4 => rfl) (fun hp4 => (cT (f_beq hp4)))) (pickOr ((a1.length:Int) == 0) (!t2))) rfl rfl ?_
  exact .dn
 refine Ok.test (b:=(((a1.length:Int) == 0) || (!t2))) rfl (fun hb16 => ?_) (fun hb16 => ?_)
 ·replace H:=ifT H hb16
  refine Ok.seq ?_
  refine .rg [(4,(.v (.slice none 0 0)))] [] ?_
  refine Ok.le (σ':=⟨[(4,(L 1 (eL 1 (eI .i64)) ([]:List (List Int))))],[]⟩) (.mk ⟨.nil _,trivial⟩ trivial) ?_
  refine Ok.ret ?_
  obtain rfl:=Option.some.inj H
  exact⟨.inl rfl,⟨_,(.cons (.tmp rfl) .nil),rfl⟩,trivial⟩
 ·replace H:=ifF H hb16
  refine Ok.skip ?_
  refine Ok.seq ?_
  obtain⟨t5,h6,H⟩:=bindE H
  refine Ok.region (σ':=⟨[(5,(.sref 18))],[(18,(.rows true 34 1 (t5.map (eL 1 (eI .i64)))))]⟩) ?_ ?_
  ·refine .cv (VOk.to (d':=(.agg (e_api_Node a0))) (.loadBAgg rfl Try.underlying27 rfl sz27 rfl rfl rfl) (congrArg D.agg (e_api_Node_c a0).symm)) rfl rfl ?_
   refine .cg (GOk.to (d':=(L 6 e_api_Node ([a0]:List T_api_Node))) (GOk.lit rfl Try.underlying25 sz27 zs27 rfl rfl rfl rfl) rfl) rfl rfl ?_
   refine .rn 1 ?_
   refine OpsOk.cons rfl (OpOk.callO 18 (rows:=t5.map (eL 1 (eI .i64))) rfl rfl cl45 rfl (match_find_o.ok h6) rfl) ?_
   refine .rn 1 ?_
   exact .dn
  refine Ok.seq ?_
  refine Ok.seq ?_
  refine Ok.region (σ':=⟨[(5,(.sref 18)),(20,(.v (.int .i64 (t5.length:Int)))),(21,(.v (.int .i64 0)))],[(18,(.rows true 34 1 (t5.map (eL 1 (eI .i64)))))]⟩) ?_ ?_
  ·refine .rn 1 ?_
   refine .cv (VOk.lenTL (e:=(eL 1 (eI .i64))) (xs:=t5) rfl Try.underlying58 rfl rfl) rfl rfl ?_
   refine .rn 1 ?_
   exact .dn
  refine Ok.block ?_
  refine Ok.loop (fun m11 σ => ∃ (y18_8:List (List Int)) (x21_7:Int),σ=⟨[(5,(.sref 18)),(20,(.v (.int .i64 (t5.length:Int)))),(21,(.v (.int .i64 x21_7)))],[(18,(.rows true 34 1 (y18_8.map (eL 1 (eI .i64)))))]⟩ ∧ match_Find.l0 k t5 m11 y18_8 x21_7=some r) k ⟨t5,0,rfl,H⟩ ?_
  rintro m11 σ ⟨y18_8,x21_7,rfl,H⟩
  cases m11 with
  | zero => exact absurd H (by simp [match_Find.l0])
  | succ m11 =>
   unfold match_Find.l0 at H
   refine Ok.seq ?_
   refine .rg [(5,(.sref 18)),(20,(.v (.int .i64 (t5.length:Int)))),(21,(.v (.int .i64 x21_7))),(22,(.v (.bool (decide (x21_7 < (t5.length:Int))))))] [(18,(.rows true 34 1 (y18_8.map (eL 1 (eI .i64)))))] ?_
   refine Ok.seq ?_
   refine Ok.test (b:=(decide (x21_7 < (t5.length:Int)))) rfl (fun hb15 => ?_) (fun hb15 => ?_)
   ·replace H:=ifT H hb15
    refine Ok.skip ?_
    refine Ok.seq ?_
    refine Ok.block ?_
    refine Ok.seq ?_
    refine .rg [(5,(.sref 18)),(6,(.v (.int .i64 x21_7))),(20,(.v (.int .i64 (t5.length:Int)))),(21,(.v (.int .i64 x21_7)))] [(18,(.rows true 34 1 (y18_8.map (eL 1 (eI .i64)))))] ?_
    obtain⟨c12,H⟩:=assertE H
    obtain⟨c13,H⟩:=assertE H
    obtain⟨c14,H⟩:=assertE H
    refine Ok.region (σ':=⟨[(5,(.sref 18)),(20,(.v (.int .i64 (t5.length:Int)))),(21,(.v (.int .i64 x21_7)))],[(18,(.rows true 34 1 ((y18_8.set (Int.toNat x21_7) (sl (rd y18_8 x21_7) 1 ((rd y18_8 x21_7).length:Int))).map (eL 1 (eI .i64)))))]⟩) ?_ ?_
    ·refine .rn 4 ?_
     refine .cv (VOk.indexTL (e:=(eL 1 (eI .i64))) (xs:=y18_8) (i:=x21_7) rfl Try.underlying58 sz34 rfl rfl rfl c12) rfl rfl ?_
     refine .cv (VOk.loadE (d:=(L 1 (eI .i64) (rd y18_8 x21_7))) rfl Try.underlying34 rfl rfl rfl (row_rd c12) rfl) rfl rfl ?_
     refine .cv (VOk.sliceL (e:=(eI .i64)) (xs:=(rd y18_8 x21_7)) (l:=1) (h:=((rd y18_8 x21_7).length:Int)) rfl Try.underlying34 sz3 rfl rfl rfl c13) rfl rfl ?_
     refine .cv (VOk.indexTL (e:=(eL 1 (eI .i64))) (xs:=y18_8) (i:=x21_7) rfl Try.underlying58 sz34 rfl rfl rfl c14) rfl rfl ?_
     refine OpsOk.cons rfl (OpOk.storeEL (e:=(eL 1 (eI .i64))) (xs:=y18_8) (i:=x21_7) (y:=(sl (rd y18_8 x21_7) 1 ((rd y18_8 x21_7).length:Int))) rfl sz34 (.same _) rfl c14 (.same _) rfl rfl rfl rfl rfl rfl) ?_
     exact .dn
    refine .rg [(5,(.sref 18)),(20,(.v (.int .i64 (t5.length:Int)))),(21,(.v (.int .i64 (IntKind.i64.wrap (x21_7 + 1)))))] [(18,(.rows true 34 1 ((y18_8.set (Int.toNat x21_7) (sl (rd y18_8 x21_7) 1 ((rd y18_8 x21_7).length:Int))).map (eL 1 (eI .i64)))))] ?_
    exact⟨m11,Nat.lt_succ_self m11,(y18_8.set (Int.toNat x21_7) (sl (rd y18_8 x21_7) 1 ((rd y18_8 x21_7).length:Int))),(IntKind.i64.wrap (x21_7 + 1)),rfl,H⟩
   ·replace H:=ifF H hb15
    refine Ok.exit ?_
    refine Ok.seq ?_
    refine .rg [(4,(.sref 18))] [(18,(.rows true 34 1 (y18_8.map (eL 1 (eI .i64)))))] ?_
    refine Ok.frzL 18 (e:=(eL 1 (eI .i64))) (xs:=y18_8) rfl ?_
    refine Ok.ret ?_
    obtain rfl:=Option.some.inj H
    exact⟨.inl rfl,⟨_,(.cons (.tmp rfl) .nil),rfl⟩,trivial⟩
def match_at.l0 (k:Nat) (a1:List Int):Nat→Int→Str→Str→List T_api_Attr→List T_api_Node→Str→Int→Str→Str→List T_api_Attr→List T_api_Node→Str→Int→Option T_api_Node
 | 0,_,_,_,_,_,_,_,_,_,_,_,_,_ => none
 | m27 + 1,y2_0_2,y2_1_3,y2_2_4,y2_3_5,y2_4_6,y2_5_7,y4_0_8,y4_1_9,y4_2_10,y4_3_11,y4_4_12,y4_5_13,x9_1 => (if (decide (x9_1 < (a1.length:Int)))=true then (if (0:Int) ≤ x9_1 ∧ x9_1 < (a1.length:Int) then (if (0:Int) ≤ (rd a1 x9_1) ∧ (rd a1 x9_1) < (y2_4_6.length:Int) then match_at.l0 k a1 m27 ((rd y2_4_6 (rd a1 x9_1)).Kind) ((rd y2_4_6 (rd a1 x9_1)).Name.Space) ((rd y2_4_6 (rd a1 x9_1)).Name.Local) ((rd y2_4_6 (rd a1 x9_1)).Attrs) ((rd y2_4_6 (rd a1 x9_1)).Kids) ((rd y2_4_6 (rd a1 x9_1)).Text) y4_0_8 y4_1_9 y4_2_10 y4_3_11 y4_4_12 y4_5_13 (IntKind.i64.wrap (x9_1 + 1)) else none) else none) else some (T_api_Node.mk y2_0_2 (T_api_Name.mk y2_1_3 y2_2_4) y2_3_5 y2_4_6 y2_5_7))
def match_at (k:Nat) (a0:T_api_Node) (a1:List Int):Option T_api_Node:=match_at.l0 k a1 k a0.Kind a0.Name.Space a0.Name.Local a0.Attrs a0.Kids a0.Text 0 ([]:Str) ([]:Str) ([]:List T_api_Attr) ([]:List T_api_Node) ([]:Str) 0
theorem match_at.ok {k:Nat} {a0:T_api_Node} {a1:List Int} {r:T_api_Node} (H:match_at k a0 a1=some r):Vx.Fn Try.prog 26 [(.agg (e_api_Node a0)),(L 1 (eI .i64) a1)] [] (.agg (e_api_Node r)) []:=by
 unfold match_at at H
 refine Vx.Fn.of_okR Try.func26 rfl (Nat.le_of_ble_eq_true rfl) ?_
 refine Ok.seq ?_
 refine Ok.region (σ':=⟨[(1,(L 1 (eI .i64) a1)),(2,(.bref 2 0)),(4,(.bref 4 0))],[(2,(bxN a0)),(4,bx0)]⟩) ?_ ?_
 ·refine OpsOk.cut1 0 (.agg (c_api_Node a0)) (DLe.of_eq (congrArg D.agg (e_api_Node_c _).symm)) ?_
  refine .rn 2 ?_
  exact .dn
 refine Ok.seq ?_
 refine Ok.seq ?_
 refine Ok.region (σ':=⟨[(2,(.bref 2 0)),(4,(.bref 4 0)),(7,(L 1 (eI .i64) a1)),(8,(.v (.int .i64 (a1.length:Int)))),(9,(.v (.int .i64 0)))],[(2,(bxN a0)),(4,bx0)]⟩) ?_ ?_
 ·refine .rn 1 ?_
  refine .cv (VOk.lenL (e:=(eI .i64)) (xs:=a1) rfl Try.underlying34 rfl) rfl rfl ?_
  refine .rn 1 ?_
  exact .dn
 refine Ok.block ?_
 refine Ok.loop (fun m27 σ => ∃ (y2_0_2:Int) (y2_1_3:Str) (y2_2_4:Str) (y2_3_5:List T_api_Attr) (y2_4_6:List T_api_Node) (y2_5_7:Str) (y4_0_8:Int) (y4_1_9:Str) (y4_2_10:Str) (y4_3_11:List T_api_Attr) (y4_4_12:List T_api_Node) (y4_5_13:Str) (x9_1:Int),σ=⟨[(2,(.bref 2 0)),(4,(.bref 4 0)),(7,(L 1 (eI .i64) a1)),(8,(.v (.int .i64 (a1.length:Int)))),(9,(.v (.int .i64 x9_1)))],[(2,(.box .ex [(.v (.int .i64 y2_0_2)),(S y2_1_3),(S y2_2_4),(L 3 e_api_Attr y2_3_5),(L 6 e_api_Node y2_4_6),(S y2_5_7)])),(4,(.box .ex [(.v (.int .i64 y4_0_8)),(S y4_1_9),(S y4_2_10),(L 3 e_api_Attr y4_3_11),(L 6 e_api_Node y4_4_12),(S y4_5_13)]))]⟩ ∧ match_at.l0 k a1 m27 y2_0_2 y2_1_3 y2_2_4 y2_3_5 y2_4_6 y2_5_7 y4_0_8 y4_1_9 y4_2_10 y4_3_11 y4_4_12 y4_5_13 x9_1=some r) k ⟨a0.Kind,a0.Name.Space,a0.Name.Local,a0.Attrs,a0.Kids,a0.Text,0,([]:Str),([]:Str),([]:List T_api_Attr),([]:List T_api_Node),([]:Str),0,rfl,H⟩ ?_
 rintro m27 σ ⟨y2_0_2,y2_1_3,y2_2_4,y2_3_5,y2_4_6,y2_5_7,y4_0_8,y4_1_9,y4_2_10,y4_3_11,y4_4_12,y4_5_13,x9_1,rfl,H⟩
 cases m27 with
 | zero => exact absurd H (by simp [match_at.l0])
 | succ m27 =>
  unfold match_at.l0 at H
  refine Ok.seq ?_
  refine .rg [(2,(.bref 2 0)),(4,(.bref 4 0)),(7,(L 1 (eI .i64) a1)),(8,(.v (.int .i64 (a1.length:Int)))),(9,(.v (.int .i64 x9_1))),(10,(.v (.bool (decide (x9_1 < (a1.length:Int))))))] [(2,(.box .ex [(.v (.int .i64 y2_0_2)),(S y2_1_3),(S y2_2_4),(L 3 e_api_Attr y2_3_5),(L 6 e_api_Node y2_4_6),(S y2_5_7)])),(4,(.box .ex [(.v (.int .i64 y4_0_8)),(S y4_1_9),(S y4_2_10),(L 3 e_api_Attr y4_3_11),(L 6 e_api_Node y4_4_12),(S y4_5_13)]))] ?_
  refine Ok.seq ?_
  refine Ok.test (b:=(decide (x9_1 < (a1.length:Int)))) rfl (fun hb30 => ?_) (fun hb30 => ?_)
  ·replace H:=ifT H hb30
   refine Ok.skip ?_
   refine Ok.seq ?_
   refine Ok.block ?_
   refine Ok.seq ?_
   obtain⟨c28,H⟩:=assertE H
   refine Ok.region (σ':=⟨[(2,(.bref 2 0)),(4,(.bref 4 0)),(6,(.v (.int .i64 (rd a1 x9_1)))),(7,(L 1 (eI .i64) a1)),(8,(.v (.int .i64 (a1.length:Int)))),(9,(.v (.int .i64 x9_1)))],[(2,(.box .ex [(.v (.int .i64 y2_0_2)),(S y2_1_3),(S y2_2_4),(L 3 e_api_Attr y2_3_5),(L 6 e_api_Node y2_4_6),(S y2_5_7)])),(4,(.box .ex [(.v (.int .i64 y4_0_8)),(S y4_1_9),(S y4_2_10),(L 3 e_api_Attr y4_3_11),(L 6 e_api_Node y4_4_12),(S y4_5_13)]))]⟩) ?_ ?_
   ·refine .cv (VOk.indexL (sz:=1) (e:=(eI .i64)) (xs:=a1) (i:=x9_1) rfl Try.underlying34 sz3 rfl rfl c28) rfl rfl ?_
    refine .rn 2 ?_
    exact .dn
   obtain⟨c29,H⟩:=assertE H
   refine Ok.region (σ':=⟨[(2,(.bref 2 0)),(4,(.bref 4 0)),(7,(L 1 (eI .i64) a1)),(8,(.v (.int .i64 (a1.length:Int)))),(9,(.v (.int .i64 x9_1)))],[(2,(.box .ex (c_api_Node (rd y2_4_6 (rd a1 x9_1))))),(4,(.box .ex [(.v (.int .i64 y4_0_8)),(S y4_1_9),(S y4_2_10),(L 3 e_api_Attr y4_3_11),(L 6 e_api_Node y4_4_12),(S y4_5_13)]))]⟩) ?_ ?_
   ·refine .rn 3 ?_
    refine .cv (VOk.indexL (sz:=6) (e:=e_api_Node) (xs:=y2_4_6) (i:=(rd a1 x9_1)) rfl Try.underlying25 sz27 rfl rfl c29) rfl rfl ?_
    refine .rn 1 ?_
    refine OpsOk.cut1 17 (.agg [(.v (.int .i64 ((rd y2_4_6 (rd a1 x9_1)).Kind))),(S ((rd y2_4_6 (rd a1 x9_1)).Name.Space)),(S ((rd y2_4_6 (rd a1 x9_1)).Name.Local)),(L 3 e_api_Attr ((rd y2_4_6 (rd a1 x9_1)).Attrs)),(L 6 e_api_Node ((rd y2_4_6 (rd a1 x9_1)).Kids)),(S ((rd y2_4_6 (rd a1 x9_1)).Text))]) (DLe.of_eq (congrArg D.agg (e_api_Node_c _).symm)) ?_
    refine .rn 1 ?_
    exact .dn
   refine .rg [(2,(.bref 2 0)),(4,(.bref 4 0)),(7,(L 1 (eI .i64) a1)),(8,(.v (.int .i64 (a1.length:Int)))),(9,(.v (.int .i64 (IntKind.i64.wrap (x9_1 + 1)))))] [(2,(.box .ex (c_api_Node (rd y2_4_6 (rd a1 x9_1))))),(4,(.box .ex [(.v (.int .i64 y4_0_8)),(S y4_1_9),(S y4_2_10),(L 3 e_api_Attr y4_3_11),(L 6 e_api_Node y4_4_12),(S y4_5_13)]))] ?_
   exact⟨m27,Nat.lt_succ_self m27,((rd y2_4_6 (rd a1 x9_1)).Kind),((rd y2_4_6 (rd a1 x9_1)).Name.Space),((rd y2_4_6 (rd a1 x9_1)).Name.Local),((rd y2_4_6 (rd a1 x9_1)).Attrs),((rd y2_4_6 (rd a1 x9_1)).Kids),((rd y2_4_6 (rd a1 x9_1)).Text),y4_0_8,y4_1_9,y4_2_10,y4_3_11,y4_4_12,y4_5_13,(IntKind.i64.wrap (x9_1 + 1)),rfl,H⟩
  ·replace H:=ifF H hb30
   refine Ok.exit ?_
   refine Ok.seq ?_
   refine Ok.region (σ':=⟨[(4,(.bref 4 0))],[(4,(.box .ex (c_api_Node (T_api_Node.mk y2_0_2 (T_api_Name.mk y2_1_3 y2_2_4) y2_3_5 y2_4_6 y2_5_7))))]⟩) ?_ ?_
   ·refine .cv (VOk.to (d':=(.agg (e_api_Node (T_api_Node.mk y2_0_2 (T_api_Name.mk y2_1_3 y2_2_4) y2_3_5 y2_4_6 y2_5_7)))) (.loadBAgg rfl Try.underlying27 rfl sz27 rfl rfl rfl) (congrArg D.agg (e_api_Node_c (T_api_Node.mk y2_0_2 (T_api_Name.mk y2_1_3 y2_2_4) y2_3_5 y2_4_6 y2_5_7)).symm)) rfl rfl ?_
    refine OpsOk.cut1 19 (.agg [(.v (.int .i64 ((T_api_Node.mk y2_0_2 (T_api_Name.mk y2_1_3 y2_2_4) y2_3_5 y2_4_6 y2_5_7).Kind))),(S ((T_api_Node.mk y2_0_2 (T_api_Name.mk y2_1_3 y2_2_4) y2_3_5 y2_4_6 y2_5_7).Name.Space)),(S ((T_api_Node.mk y2_0_2 (T_api_Name.mk y2_1_3 y2_2_4) y2_3_5 y2_4_6 y2_5_7).Name.Local)),(L 3 e_api_Attr ((T_api_Node.mk y2_0_2 (T_api_Name.mk y2_1_3 y2_2_4) y2_3_5 y2_4_6 y2_5_7).Attrs)),(L 6 e_api_Node ((T_api_Node.mk y2_0_2 (T_api_Name.mk y2_1_3 y2_2_4) y2_3_5 y2_4_6 y2_5_7).Kids)),(S ((T_api_Node.mk y2_0_2 (T_api_Name.mk y2_1_3 y2_2_4) y2_3_5 y2_4_6 y2_5_7).Text))]) (DLe.of_eq (congrArg D.agg (e_api_Node_c _).symm)) ?_
    refine .rn 1 ?_
    exact .dn
   refine Ok.ret ?_
   obtain rfl:=Option.some.inj H
   exact⟨.inl rfl,⟨_,(.cons (.cell (VOk.to (d':=(.agg (e_api_Node (T_api_Node.mk y2_0_2 (T_api_Name.mk y2_1_3 y2_2_4) y2_3_5 y2_4_6 y2_5_7)))) (.loadBAgg rfl Try.underlying27 rfl sz27 rfl rfl rfl) (congrArg D.agg (e_api_Node_c (T_api_Node.mk y2_0_2 (T_api_Name.mk y2_1_3 y2_2_4) y2_3_5 y2_4_6 y2_5_7)).symm))) .nil),rfl⟩,trivial⟩
def match_Select.j0 (t3:(List (List Int))):Option ((List Int) × Int):=(if (0:Int) ≤ 0 ∧ 0 < (t3.length:Int) then some ((rd t3 0),0) else none)
def match_Select (k:Nat) (a0:T_api_Node) (a1:List T_api_Step):Option ((List Int) × Int):=((match_Split a1).bind fun (t1:(List T_api_Step) × T_api_Step) => ((match_Find k a0 t1.1).bind fun (t3:(List (List Int))) => (if ((t3.length:Int) == 0)=true then some (([]:List Int),5) else (if (decide ((t3.length:Int) > 1))=true then some (([]:List Int),35) else (if (t1.2.Kind == 2)=true then (if (0:Int) ≤ 0 ∧ 0 < (t3.length:Int) then ((match_at k a0 (rd t3 0)).bind fun (t7:T_api_Node) => ((tree_Get k t7 t1.2.Name).bind fun (t9:Str × Bool) => (if (!t9.2)=true then some (([]:List Int),5) else match_Select.j0 t3))) else none) else match_Select.j0 t3)))))
theorem match_Select.ok {k:Nat} {a0:T_api_Node} {a1:List T_api_Step} {r:(List Int) × Int} (H:match_Select k a0 a1=some r):Vx.Fn Try.prog 9 [(.agg (e_api_Node a0)),(L 9 e_api_Step a1)] [] (.tup [(L 1 (eI .i64) r.1),(.v (.int .i64 r.2))]) []:=by
 unfold match_Select at H
 refine Vx.Fn.of_okR Try.func9 rfl (Nat.le_of_ble_eq_true rfl) ?_
 refine Ok.seq ?_
 refine Ok.region (σ':=⟨[(1,(L 9 e_api_Step a1)),(2,(.bref 2 0))],[(2,(bxN a0))]⟩) ?_ ?_
 ·refine OpsOk.cut1 0 (.agg (c_api_Node a0)) (DLe.of_eq (congrArg D.agg (e_api_Node_c _).symm)) ?_
  refine .rn 3 ?_
  exact .dn
 refine Ok.seq ?_
 obtain⟨t1,h2,H⟩:=bindE H
 refine Ok.region (σ':=⟨[(2,(.bref 2 0)),(6,(L 9 e_api_Step t1.1)),(7,(.bref 7 0))],[(2,(bxN a0)),(7,(.box .ex (c_api_Step t1.2)))]⟩) ?_ ?_
 ·refine .rn 1 ?_
  refine .cg (GOk.call rfl rfl cl24 rfl (match_Split.ok h2) rfl) rfl rfl ?_
  refine .rn 6 ?_
  exact .dn
 refine Ok.seq ?_
 obtain⟨t3,h4,H⟩:=bindE H
 refine Ok.region (σ':=⟨[(2,(.bref 2 0)),(7,(.bref 7 0)),(8,(L 1 (eL 1 (eI .i64)) t3))],[(2,(bxN a0)),(7,(.box .ex (c_api_Step t1.2)))]⟩) ?_ ?_
 ·refine .cv (VOk.to (d':=(.agg (e_api_Node a0))) (.loadBAgg rfl Try.underlying27 rfl sz27 rfl rfl rfl) (congrArg D.agg (e_api_Node_c a0).symm)) rfl rfl ?_
  refine .rn 1 ?_
  refine .cg (GOk.call rfl rfl cl25 rfl (match_Find.ok h4) rfl) rfl rfl ?_
  refine .rn 1 ?_
  exact .dn
 refine Ok.seq ?_
 refine Ok.block ?_
 refine Ok.seq ?_
 refine Ok.region (σ':=⟨[(2,(.bref 2 0)),(7,(.bref 7 0)),(8,(L 1 (eL 1 (eI .i64)) t3)),(19,(.v (.bool ((t3.length:Int) == 0))))],[(2,(bxN a0)),(7,(.box .ex (c_api_Step t1.2)))]⟩) ?_ ?_
 ·refine .rn 1 ?_
  refine .cv (VOk.lenL (e:=(eL 1 (eI .i64))) (xs:=t3) rfl Try.underlying58 rfl) rfl rfl ?_
  refine .rn 2 ?_
  exact .dn
 refine Ok.test (b:=((t3.length:Int) == 0)) rfl (fun hb14 => ?_) (fun hb14 => ?_)
 ·replace H:=ifT H hb14
  refine Ok.seq ?_
  refine .rg [(4,(.v (.slice none 0 0))),(5,(.v (.int .i64 5)))] [] ?_
  refine Ok.le (σ':=⟨[(4,(L 1 (eI .i64) ([]:List Int))),(5,(.v (.int .i64 5)))],[]⟩) (.mk ⟨.nil _,.same _,trivial⟩ trivial) ?_
  refine Ok.ret ?_
  obtain rfl:=Option.some.inj H
  exact⟨.inl rfl,⟨_,(.cons (.tmp rfl) (.cons (.tmp rfl) .nil)),rfl⟩,trivial⟩
 ·replace H:=ifF H hb14
  refine Ok.seq ?_
  refine Ok.region (σ':=⟨[(2,(.bref 2 0)),(7,(.bref 7 0)),(8,(L 1 (eL 1 (eI .i64)) t3)),(23,(.v (.bool (decide ((t3.length:Int) > 1)))))],[(2,(bxN a0)),(7,(.box .ex (c_api_Step t1.2)))]⟩) ?_ ?_
  ·refine .rn 1 ?_
   refine .cv (VOk.lenL (e:=(eL 1 (eI .i64))) (xs:=t3) rfl Try.underlying58 rfl) rfl rfl ?_
   refine .rn 2 ?_
   exact .dn
  refine Ok.test (b:=(decide ((t3.length:Int) > 1))) rfl (fun hb13 => ?_) (fun hb13 => ?_)
  ·replace H:=ifT H hb13
   refine Ok.seq ?_
   refine .rg [(4,(.v (.slice none 0 0))),(5,(.v (.int .i64 35)))] [] ?_
   refine Ok.le (σ':=⟨[(4,(L 1 (eI .i64) ([]:List Int))),(5,(.v (.int .i64 35)))],[]⟩) (.mk ⟨.nil _,.same _,trivial⟩ trivial) ?_
   refine Ok.ret ?_
   obtain rfl:=Option.some.inj H
   exact⟨.inl rfl,⟨_,(.cons (.tmp rfl) (.cons (.tmp rfl) .nil)),rfl⟩,trivial⟩
  ·replace H:=ifF H hb13
   refine Ok.skip ?_
   refine Ok.meet (fun σ => σ=⟨[(8,(L 1 (eL 1 (eI .i64)) t3))],[]⟩ ∧ match_Select.j0 t3=some r) ?_ ?_
   ·refine Ok.seq ?_
    refine .rg [(2,(.bref 2 0)),(7,(.bref 7 0)),(8,(L 1 (eL 1 (eI .i64)) t3)),(29,(.v (.bool (t1.2.Kind == 2))))] [(2,(bxN a0)),(7,(.box .ex (c_api_Step t1.2)))] ?_
    refine Ok.test (b:=(t1.2.Kind == 2)) rfl (fun hb12 => ?_) (fun hb12 => ?_)
    ·replace H:=ifT H hb12
     refine Ok.seq ?_
     obtain⟨c6,H⟩:=assertE H
     obtain⟨t7,h8,H⟩:=bindE H
     obtain⟨t9,h10,H⟩:=bindE H
     refine .dA [(8,(L 1 (eL 1 (eI .i64)) t3)),(10,(.v (.bool t9.2)))] [] [[],[],[1],[2],[0,3],[],[5],[4,6],[7],[8],[8],[9],[10]] mixed ?_ ?_
     ·refine .tc (VOk.g (VOk.to (d':=(.agg (e_api_Node a0))) (.loadBAgg rfl Try.underlying27 rfl sz27 rfl rfl rfl) (congrArg D.agg (e_api_Node_c a0).symm))) ?_
      refine .tn 1 ?_
      refine .tc (VOk.g (VOk.indexL (sz:=1) (e:=(eL 1 (eI .i64))) (xs:=t3) (i:=0) rfl Try.underlying58 sz34 rfl rfl c6)) ?_
      refine .tn 1 ?_
      refine .tc (GOk.call rfl rfl cl26 rfl (match_at.ok h8) rfl) ?_
      refine .tn 2 ?_
      refine .tc (GOk.call rfl rfl cl14 rfl (tree_Get.ok h10) rfl) ?_
      refine .tn 5 ?_
      exact .dn
     refine Ok.seq ?_
     refine .rg [(8,(L 1 (eL 1 (eI .i64)) t3)),(42,(.v (.bool (!t9.2))))] [] ?_
     refine Ok.test (b:=(!t9.2)) rfl (fun hb11 => ?_) (fun hb11 => ?_)
     ·replace H:=ifT H hb11
      refine Ok.seq ?_
      refine .rg [(4,(.v (.slice none 0 0))),(5,(.v (.int .i64 5)))] [] ?_
      refine Ok.le (σ':=⟨[(4,(L 1 (eI .i64) ([]:List Int))),(5,(.v (.int .i64 5)))],[]⟩) (.mk ⟨.nil _,.same _,trivial⟩ trivial) ?_
      refine Ok.ret ?_
      obtain rfl:=Option.some.inj H
      exact⟨.inl rfl,⟨_,(.cons (.tmp rfl) (.cons (.tmp rfl) .nil)),rfl⟩,trivial⟩
     ·replace H:=ifF H hb11
      refine Ok.le (σ':=⟨[(8,(L 1 (eL 1 (eI .i64)) t3))],[]⟩) (.rf rfl rfl) ?_
      refine Ok.skip ?_
      exact⟨rfl,H⟩
    ·replace H:=ifF H hb12
     refine Ok.le (σ':=⟨[(8,(L 1 (eL 1 (eI .i64)) t3))],[]⟩) (.rf rfl rfl) ?_
     refine Ok.skip ?_
     exact⟨rfl,H⟩
   ·rintro σ ⟨rfl,H⟩
    unfold match_Select.j0 at H
    refine Ok.seq ?_
    obtain⟨c5,H⟩:=assertE H
    refine Ok.region (σ':=⟨[(4,(L 1 (eI .i64) (rd t3 0))),(5,(.v (.int .i64 0)))],[]⟩) ?_ ?_
    ·refine .rn 1 ?_
     refine .cv (VOk.indexL (sz:=1) (e:=(eL 1 (eI .i64))) (xs:=t3) (i:=0) rfl Try.underlying58 sz34 rfl rfl c5) rfl rfl ?_
     refine .rn 3 ?_
     exact .dn
    refine Ok.ret ?_
    obtain rfl:=Option.some.inj H
    exact⟨.inl rfl,⟨_,(.cons (.tmp rfl) (.cons (.tmp rfl) .nil)),rfl⟩,trivial⟩
def path_kid (a0:T_api_Node) (a1:Int):Option Bool:=some ((decide (a1 ≥ 0)) && (decide (a1 < (a0.Kids.length:Int))))
theorem path_kid.ok {a0:T_api_Node} {a1:Int} {r:Bool} (H:path_kid a0 a1=some r):Vx.Fn Try.prog 27 [(.agg (e_api_Node a0)),(.v (.int .i64 a1))] [] (.v (.bool r)) []:=by
 unfold path_kid at H
 refine Vx.Fn.of_okR Try.func27 rfl (Nat.le_of_ble_eq_true rfl) ?_
 refine Ok.seq ?_
 refine Ok.region (σ':=⟨[(1,(.v (.int .i64 a1))),(2,(.bref 2 0))],[(2,(bxN a0))]⟩) ?_ ?_
 ·refine OpsOk.cut1 0 (.agg (c_api_Node a0)) (DLe.of_eq (congrArg D.agg (e_api_Node_c _).symm)) ?_
  refine .rn 2 ?_
  exact .dn
 refine Ok.seq ?_
 refine Ok.region (σ':=⟨[(4,(.v (.bool ((decide (a1 ≥ 0)) && (decide (a1 < (a0.Kids.length:Int)))))))],[]⟩) ?_ ?_
 ·refine .rn 3 ?_
  refine OpsOk.consI rfl rfl rfl (.one rfl) rfl (fun hw1 => (VOk.g (VOk.mv (d:=(.v (.int .i64 a1))) rfl rfl))) ?_
  refine OpsOk.consI rfl rfl rfl (.one rfl) rfl (fun hw1 => (VOk.g (VOk.to (VOk.fieldB rfl Try.underlying27 rfl sz25 rfl rfl) rfl))) ?_
  refine OpsOk.consI rfl rfl rfl (.one rfl) rfl (fun hw1 => (GOk.fr (fr':=[(9,(.bref 2 4))]) ⟨DLe.of_eq (cT hw1).symm,trivial⟩ (VOk.g (VOk.loadB (d:=(L 6 e_api_Node a0.Kids)) rfl Try.underlying25 rfl rfl rfl rfl)))) ?_
  refine OpsOk.consI rfl rfl rfl (.one rfl) rfl (fun hw1 => (GOk.fr (fr':=[(10,(L 6 e_api_Node a0.Kids))]) ⟨DLe.of_eq (cT hw1).symm,trivial⟩ (VOk.g (VOk.lenL (e:=e_api_Node) (xs:=a0.Kids) rfl Try.underlying25 rfl)))) ?_
  refine OpsOk.consI rfl rfl rfl (.one rfl) rfl (fun hw1 => (GOk.fr (fr':=[(8,(.v (.int .i64 a1))),(11,(.v (.int .i64 (a0.Kids.length:Int))))]) ⟨DLe.of_eq (cT hw1).symm,DLe.of_eq (cT hw1).symm,trivial⟩ (VOk.g (VOk.arith (op:=.lss) (k:=.i64) (a:=a1) (b:=(a0.Kids.length:Int)) rfl rfl rfl rfl)))) ?_
  refine .cv (VOk.to (VOk.pickI (b:=(decide (a1 ≥ 0))) (p:=(decide (a1 < (a0.Kids.length:Int)))) (q:=false) rfl rfl (fun hp2 => (cT (t_beq hp2))) (fun hp2 => rfl)) (pickAnd (decide (a1 ≥ 0)) (decide (a1 < (a0.Kids.length:Int))))) rfl rfl ?_
  refine .rn 1 ?_
  exact .dn
 refine Ok.ret ?_
 obtain rfl:=Option.some.inj H
 exact⟨.inl rfl,⟨_,(.cons (.tmp rfl) .nil),rfl⟩,trivial⟩
def slices_Clone_46 (a0:List T_api_Attr):Option (List T_api_Attr):=(if (([]:List T_api_Attr).length + a0.length) * 48 ≤ 140737488355328 then some (([]:List T_api_Attr) ++ a0) else none)
theorem slices_Clone_46.ok {a0:List T_api_Attr} {r:(List T_api_Attr)} (H:slices_Clone_46 a0=some r):Vx.Fn Try.prog 46 [(L 3 e_api_Attr a0)] [] (L 3 e_api_Attr r) []:=by
 unfold slices_Clone_46 at H
 refine Vx.Fn.of_okR Try.func46 rfl (Nat.le_of_ble_eq_true rfl) ?_
 refine Ok.seq ?_
 refine .rg [(0,(L 3 e_api_Attr a0))] [] ?_
 refine Ok.seq ?_
 refine Ok.seq ?_
 refine Ok.regionB (X:=fun b => b=true→a0=[]) (σ':=fun nb1 =>⟨[(0,(L 3 e_api_Attr a0)),(4,(.v (.bool nb1)))],[]⟩) ?_ (fun nb1 hnb1 => ?_)
 ·refine OpsB.cons rfl (.v (VOk.mv (d:=(L 3 e_api_Attr a0)) rfl rfl) rfl) ?_
  exact .last rfl (BOk.eqNil (E:=e_api_Attr) (xs:=a0) rfl Try.underlying24 rfl) rfl (fun nb1 => (.rf rfl rfl))
 refine Ok.test (b:=nb1) rfl (fun hb3 => ?_) (fun hb3 => ?_)
 ·replace H:some ([]:List T_api_Attr)=some r:=nilH (hnb1 hb3) H (fun h => by (try rw [h]); rfl)
  refine Ok.seq ?_
  refine .rg [(2,(.v (.slice none 0 0)))] [] ?_
  refine Ok.le (σ':=⟨[(2,(L 3 e_api_Attr ([]:List T_api_Attr)))],[]⟩) (.mk ⟨.nil _,trivial⟩ trivial) ?_
  refine Ok.ret ?_
  obtain rfl:=Option.some.inj H
  exact⟨.inl rfl,⟨_,(.cons (.tmp rfl) .nil),rfl⟩,trivial⟩
 ·refine Ok.skip ?_
  refine Ok.seq ?_
  obtain⟨c2,H⟩:=assertE H
  refine Ok.region (σ':=⟨[(2,(L 3 e_api_Attr (([]:List T_api_Attr) ++ a0)))],[]⟩) ?_ ?_
  ·refine .cg (GOk.to (d':=(.clist 3 (List.map e_api_Attr ([]:List T_api_Attr)))) (GOk.litC rfl Try.underlying24 sz68 zs68 rfl rfl rfl rfl) rfl) rfl rfl ?_
   refine .rn 1 ?_
   refine .cg (GOk.appendC (e:=e_api_Attr) (xs:=([]:List T_api_Attr)) (ys:=a0) rfl Try.underlying24 elt68 (.same _) rfl c2) rfl rfl ?_
   refine .rn 1 ?_
   exact .dn
  refine Ok.ret ?_
  obtain rfl:=Option.some.inj H
  exact⟨.inl rfl,⟨_,(.cons (.tmp rfl) .nil),rfl⟩,trivial⟩
def slices_Clone_47_o (a0:List T_api_Node):Option (List T_api_Node):=(if (([]:List T_api_Node).length + a0.length) * 104 ≤ 140737488355328 then some (([]:List T_api_Node) ++ a0) else none)
theorem slices_Clone_47_o.ok {a0:List T_api_Node} {r:(List T_api_Node)} (H:slices_Clone_47_o a0=some r):Vx.Fn Try.prog 47 [(L 6 e_api_Node a0)] [] (.sref 0) [(0,.rows true 27 6 (List.map e_api_Node r))]:=by
 unfold slices_Clone_47_o at H
 refine Vx.Fn.of_okO (t:=2) Try.func47 rfl (Nat.le_of_ble_eq_true rfl) rfl ?_
 refine Ok.seq ?_
 refine Ok.region (σ':=⟨[(0,(L 6 e_api_Node a0))],[]⟩) ?_ ?_
 ·refine OpsOk.cons rfl (.nilT 2 27 6 (.inl rfl) rfl rfl) ?_
  exact .dn
 refine Ok.seq ?_
 refine Ok.seq ?_
 refine Ok.regionB (X:=fun b => b=true→a0=[]) (σ':=fun nb1 =>⟨[(0,(L 6 e_api_Node a0)),(4,(.v (.bool nb1)))],[]⟩) ?_ (fun nb1 hnb1 => ?_)
 ·refine OpsB.cons rfl (.v (VOk.mv (d:=(L 6 e_api_Node a0)) rfl rfl) rfl) ?_
  exact .last rfl (BOk.eqNil (E:=e_api_Node) (xs:=a0) rfl Try.underlying25 rfl) rfl (fun nb1 => (.rf rfl rfl))
 refine Ok.test (b:=nb1) rfl (fun hb3 => ?_) (fun hb3 => ?_)
 ·replace H:some ([]:List T_api_Node)=some r:=nilH (hnb1 hb3) H (fun h => by (try rw [h]); rfl)
  refine Ok.seq ?_
  refine Ok.region (σ':=⟨[(2,(.sref 2))],[(2,(.rows true 27 6 (([]:List T_api_Node).map e_api_Node)))]⟩) ?_ ?_
  ·refine OpsOk.cons rfl (.nilT 2 27 6 (.inl rfl) rfl rfl) ?_
   exact .dn
  refine Ok.ret ?_
  obtain rfl:=Option.some.inj H
  exact⟨.inl rfl,2,rfl,rfl⟩
 ·refine Ok.skip ?_
  refine Ok.seq ?_
  obtain⟨c2,H⟩:=assertE H
  refine Ok.region (σ':=⟨[(2,(.sref 5))],[(5,(.rows true 27 6 ((([]:List T_api_Node) ++ a0).map e_api_Node)))]⟩) ?_ ?_
  ·refine OpsOk.cons rfl (OpOk.litT 5 rfl rfl Try.underlying25 sz27 zs27 rfl (rows:=([]:List T_api_Node).map e_api_Node) rfl rfl rfl rfl) ?_
   refine .rn 1 ?_
   refine OpsOk.cons rfl (OpOk.appendL (e:=e_api_Node) (xs:=([]:List T_api_Node)) (ys:=a0) rfl Try.underlying25 elt27 rfl rfl rfl c2 rfl) ?_
   refine .rn 1 ?_
   exact .dn
  refine Ok.ret ?_
  obtain rfl:=Option.some.inj H
  exact⟨.inl rfl,5,rfl,rfl⟩
def tree_Copy.l0 (k:Nat) (self:T_api_Node→Option T_api_Node) (t3:List T_api_Node):Nat→Int→Str→Str→List T_api_Attr→Str→Int→Str→Str→List T_api_Attr→List T_api_Node→Str→List T_api_Node→Int→Option T_api_Node
 | 0,_,_,_,_,_,_,_,_,_,_,_,_,_ => none
 | m31 + 1,y1_0_6,y1_1_7,y1_2_8,y1_3_9,y1_5_10,y2_0_11,y2_1_12,y2_2_13,y2_3_14,y2_4_15,y2_5_16,y1024_17,x16_5 => (if (decide (x16_5 < (t3.length:Int)))=true then (if (0:Int) ≤ x16_5 ∧ x16_5 < (y1024_17.length:Int) then ((self (rd y1024_17 x16_5)).bind fun (t33:T_api_Node) => (if (0:Int) ≤ x16_5 ∧ x16_5 < (y1024_17.length:Int) then tree_Copy.l0 k self t3 m31 y1_0_6 y1_1_7 y1_2_8 y1_3_9 y1_5_10 y2_0_11 y2_1_12 y2_2_13 y2_3_14 y2_4_15 y2_5_16 (y1024_17.set (Int.toNat x16_5) t33) (IntKind.i64.wrap (x16_5 + 1)) else none)) else none) else some (T_api_Node.mk y1_0_6 (T_api_Name.mk y1_1_7 y1_2_8) y1_3_9 y1024_17 y1_5_10))
def tree_Copy:Nat→T_api_Node→Option T_api_Node
 | 0,_ => none
 | k + 1,a0 => ((slices_Clone_46 a0.Attrs).bind fun (t1:(List T_api_Attr)) => ((slices_Clone_47_o a0.Kids).bind fun (t3:List T_api_Node) => tree_Copy.l0 k (tree_Copy k) t3 k a0.Kind a0.Name.Space a0.Name.Local t1 a0.Text 0 ([]:Str) ([]:Str) ([]:List T_api_Attr) ([]:List T_api_Node) ([]:Str) t3 0))
theorem tree_Copy.ok {k:Nat} {a0:T_api_Node} {r:T_api_Node} (H:tree_Copy k a0=some r):Vx.Fn Try.prog 28 [(.agg (e_api_Node a0))] [] (.agg (e_api_Node r)) []:=by
 induction k generalizing a0 r with
 | zero => exact absurd H (by simp [tree_Copy])
 | succ k ih =>
  unfold tree_Copy at H
  refine Vx.Fn.of_okR Try.func28 rfl (Nat.le_of_ble_eq_true rfl) ?_
  refine Ok.seq ?_
  refine Ok.region (σ':=⟨[(1,(.bref 1 0)),(2,(.bref 2 0))],[(1,(bxN a0)),(2,bx0)]⟩) ?_ ?_
  ·refine OpsOk.cut1 0 (.agg (c_api_Node a0)) (DLe.of_eq (congrArg D.agg (e_api_Node_c _).symm)) ?_
   refine .rn 2 ?_
   exact .dn
  refine Ok.seq ?_
  obtain⟨t1,h2,H⟩:=bindE H
  obtain⟨t3,h4,H⟩:=bindE H
  refine Ok.le (σ':=⟨[(1,(.bref 1 0)),(2,(.bref 2 0))],[(1,(bxN a0)),(2,bx0)]⟩) (.rf rfl rfl) ?_
  refine Ok.drawE2 (σ':=⟨[(1,(.bref 1 0)),(2,(.bref 2 0))],[(1,(.box .ex [(.v (.int .i64 a0.Kind)),(S a0.Name.Space),(S a0.Name.Local),(L 3 e_api_Attr t1),(.sref 1024),(S a0.Text)])),(2,bx0),(1024,(.rows true 27 6 (t3.map e_api_Node)))]⟩) [⟨true,[(1,(.bref 1 0))],[(1,(bxN a0))],(.bref 1 3),[],false,[]⟩,⟨true,[(5,(.bref 1 3))],[(1,(bxN a0))],(L 3 e_api_Attr a0.Attrs),[],false,[]⟩,⟨true,[(6,(L 3 e_api_Attr a0.Attrs))],[],(L 3 e_api_Attr t1),[],false,[]⟩,⟨true,[(1,(.bref 1 0))],[(1,(bxN a0))],(.bref 1 4),[],false,[]⟩,⟨true,[(8,(.bref 1 4))],[(1,(bxN a0))],(L 6 e_api_Node a0.Kids),[],false,[]⟩,⟨true,[(9,(L 6 e_api_Node a0.Kids))],[],(.sref 10),[(10,(.rows true 27 6 (t3.map e_api_Node)))],true,[]⟩,⟨true,[(1,(.bref 1 0))],[(1,(bxN a0))],(.bref 1 3),[],false,[]⟩,⟨true,[(11,(.bref 1 3)),(7,(L 3 e_api_Attr t1))],[(1,(bxN a0))],.junk,[(1,(.box .ex [(.v (.int .i64 a0.Kind)),(S a0.Name.Space),(S a0.Name.Local),(L 3 e_api_Attr t1),(L 6 e_api_Node a0.Kids),(S a0.Text)]))],false,[]⟩,⟨true,[(1,(.bref 1 0))],[(1,(.box .ex [(.v (.int .i64 a0.Kind)),(S a0.Name.Space),(S a0.Name.Local),(L 3 e_api_Attr t1),(L 6 e_api_Node a0.Kids),(S a0.Text)]))],(.bref 1 4),[],false,[]⟩,⟨true,[(12,(.bref 1 4)),(10,(.sref 10))],[(1,(.box .ex [(.v (.int .i64 a0.Kind)),(S a0.Name.Space),(S a0.Name.Local),(L 3 e_api_Attr t1),(L 6 e_api_Node a0.Kids),(S a0.Text)])),(10,(.rows true 27 6 (t3.map e_api_Node)))],.junk,[(1,(.box .ex [(.v (.int .i64 a0.Kind)),(S a0.Name.Space),(S a0.Name.Local),(L 3 e_api_Attr t1),(.sref 10),(S a0.Text)]))],false,[]⟩] [[],[0],[1],[],[3],[4],[],[0,1,2,3,4,6],[7],[0,1,3,4,5,6,7,8]] mixed (by kernel_rfl) ?_ ?_
  ·refine TxtE2.cons ⟨.same _,trivial⟩ ⟨rfl,trivial⟩ (It2.val rfl rfl (fun T hT => (VOk.g (VOk.to (VOk.fieldB rfl Try.underlying27 rfl sz24 rfl hT.1) rfl)))) ?_
   refine TxtE2.cons ⟨.same _,trivial⟩ ⟨rfl,trivial⟩ (It2.val rfl rfl (fun T hT => (VOk.g (VOk.loadB (d:=(L 3 e_api_Attr a0.Attrs)) rfl Try.underlying24 rfl rfl hT.1 rfl)))) ?_
   refine TxtE2.cons ⟨.same _,trivial⟩ trivial (It2.val rfl rfl (fun T hT => (GOk.call rfl rfl cl46 rfl (slices_Clone_46.ok h2) rfl))) ?_
   refine TxtE2.cons ⟨.same _,trivial⟩ ⟨rfl,trivial⟩ (It2.val rfl rfl (fun T hT => (VOk.g (VOk.to (VOk.fieldB rfl Try.underlying27 rfl sz25 rfl hT.1) rfl)))) ?_
   refine TxtE2.cons ⟨.same _,trivial⟩ ⟨rfl,trivial⟩ (It2.val rfl rfl (fun T hT => (VOk.g (VOk.loadB (d:=(L 6 e_api_Node a0.Kids)) rfl Try.underlying25 rfl rfl hT.1 rfl)))) ?_
   refine TxtE2.cons ⟨.same _,trivial⟩ trivial (It2.callO 10 (rows:=t3.map e_api_Node) rfl rfl rfl cl47 rfl (slices_Clone_47_o.ok h4) rfl) ?_
   refine TxtE2.cons ⟨.same _,trivial⟩ ⟨rfl,trivial⟩ (It2.val rfl rfl (fun T hT => (VOk.g (VOk.to (VOk.fieldB rfl Try.underlying27 rfl sz24 rfl hT.1) rfl)))) ?_
   refine TxtE2.cons ⟨.same _,.same _,trivial⟩ ⟨rfl,trivial⟩ (It2.store rfl rfl sz24 rfl rfl rfl rfl rfl rfl rfl rfl) ?_
   refine TxtE2.cons ⟨.same _,trivial⟩ ⟨rfl,trivial⟩ (It2.val rfl rfl (fun T hT => (VOk.g (VOk.to (VOk.fieldB rfl Try.underlying27 rfl sz25 rfl hT.1) rfl)))) ?_
   refine TxtE2.cons ⟨.same _,.same _,trivial⟩ ⟨rfl,rfl,trivial⟩ (It2.store rfl rfl sz25 rfl rfl rfl rfl rfl rfl rfl rfl) ?_
   exact .doneS (SLe.trans (Le.s (.rf rfl rfl)) (SLe.ren 10 1024 rfl rfl))
  refine Ok.seq ?_
  refine Ok.seq ?_
  refine Ok.region (σ':=⟨[(1,(.bref 1 0)),(2,(.bref 2 0)),(14,(.sref 1024)),(15,(.v (.int .i64 (t3.length:Int)))),(16,(.v (.int .i64 0)))],[(1,(.box .ex [(.v (.int .i64 a0.Kind)),(S a0.Name.Space),(S a0.Name.Local),(L 3 e_api_Attr t1),(.sref 1024),(S a0.Text)])),(2,bx0),(1024,(.rows true 27 6 (t3.map e_api_Node)))]⟩) ?_ ?_
  ·refine .rn 2 ?_
   refine .cv (VOk.lenTL (e:=e_api_Node) (xs:=t3) rfl Try.underlying25 rfl rfl) rfl rfl ?_
   refine .rn 1 ?_
   exact .dn
  refine Ok.block ?_
  refine Ok.loop (fun m31 σ => ∃ (y1_0_6:Int) (y1_1_7:Str) (y1_2_8:Str) (y1_3_9:List T_api_Attr) (y1_5_10:Str) (y2_0_11:Int) (y2_1_12:Str) (y2_2_13:Str) (y2_3_14:List T_api_Attr) (y2_4_15:List T_api_Node) (y2_5_16:Str) (y1024_17:List T_api_Node) (x16_5:Int),σ=⟨[(1,(.bref 1 0)),(2,(.bref 2 0)),(14,(.sref 1024)),(15,(.v (.int .i64 (t3.length:Int)))),(16,(.v (.int .i64 x16_5)))],[(1,(.box .ex [(.v (.int .i64 y1_0_6)),(S y1_1_7),(S y1_2_8),(L 3 e_api_Attr y1_3_9),(.sref 1024),(S y1_5_10)])),(2,(.box .ex [(.v (.int .i64 y2_0_11)),(S y2_1_12),(S y2_2_13),(L 3 e_api_Attr y2_3_14),(L 6 e_api_Node y2_4_15),(S y2_5_16)])),(1024,(.rows true 27 6 (y1024_17.map e_api_Node)))]⟩ ∧ tree_Copy.l0 k (tree_Copy k) t3 m31 y1_0_6 y1_1_7 y1_2_8 y1_3_9 y1_5_10 y2_0_11 y2_1_12 y2_2_13 y2_3_14 y2_4_15 y2_5_16 y1024_17 x16_5=some r) k ⟨a0.Kind,a0.Name.Space,a0.Name.Local,t1,a0.Text,0,([]:Str),([]:Str),([]:List T_api_Attr),([]:List T_api_Node),([]:Str),t3,0,rfl,H⟩ ?_
  rintro m31 σ ⟨y1_0_6,y1_1_7,y1_2_8,y1_3_9,y1_5_10,y2_0_11,y2_1_12,y2_2_13,y2_3_14,y2_4_15,y2_5_16,y1024_17,x16_5,rfl,H⟩
  cases m31 with
  | zero => exact absurd H (by simp [tree_Copy.l0])
  | succ m31 =>
   unfold tree_Copy.l0 at H
   refine Ok.seq ?_
   refine .rg [(1,(.bref 1 0)),(2,(.bref 2 0)),(14,(.sref 1024)),(15,(.v (.int .i64 (t3.length:Int)))),(16,(.v (.int .i64 x16_5))),(17,(.v (.bool (decide (x16_5 < (t3.length:Int))))))] [(1,(.box .ex [(.v (.int .i64 y1_0_6)),(S y1_1_7),(S y1_2_8),(L 3 e_api_Attr y1_3_9),(.sref 1024),(S y1_5_10)])),(2,(.box .ex [(.v (.int .i64 y2_0_11)),(S y2_1_12),(S y2_2_13),(L 3 e_api_Attr y2_3_14),(L 6 e_api_Node y2_4_15),(S y2_5_16)])),(1024,(.rows true 27 6 (y1024_17.map e_api_Node)))] ?_
   refine Ok.seq ?_
   refine Ok.test (b:=(decide (x16_5 < (t3.length:Int)))) rfl (fun hb36 => ?_) (fun hb36 => ?_)
   ·replace H:=ifT H hb36
    refine Ok.skip ?_
    refine Ok.seq ?_
    refine Ok.block ?_
    refine Ok.seq ?_
    obtain⟨c32,H⟩:=assertE H
    refine Ok.region (σ':=⟨[(1,(.bref 1 0)),(2,(.bref 2 0)),(3,(.v (.int .i64 x16_5))),(4,(.bref 4 0)),(14,(.sref 1024)),(15,(.v (.int .i64 (t3.length:Int)))),(16,(.v (.int .i64 x16_5)))],[(1,(.box .ex [(.v (.int .i64 y1_0_6)),(S y1_1_7),(S y1_2_8),(L 3 e_api_Attr y1_3_9),(.sref 1024),(S y1_5_10)])),(2,(.box .ex [(.v (.int .i64 y2_0_11)),(S y2_1_12),(S y2_2_13),(L 3 e_api_Attr y2_3_14),(L 6 e_api_Node y2_4_15),(S y2_5_16)])),(4,(.box .ex (c_api_Node (rd y1024_17 x16_5)))),(1024,(.rows true 27 6 (y1024_17.map e_api_Node)))]⟩) ?_ ?_
    ·refine .rn 1 ?_
     refine .cv (VOk.indexTL (e:=e_api_Node) (xs:=y1024_17) (i:=x16_5) rfl Try.underlying25 sz27 rfl rfl rfl c32) rfl rfl ?_
     refine .cv (VOk.to (d':=(.agg (e_api_Node (rd y1024_17 x16_5)))) (.loadEAgg rfl Try.underlying27 rfl sz27 rfl rfl (row_rd c32) rfl) rfl) rfl rfl ?_
     refine .rn 2 ?_
     refine OpsOk.cut1 20 (.agg [(.v (.int .i64 ((rd y1024_17 x16_5).Kind))),(S ((rd y1024_17 x16_5).Name.Space)),(S ((rd y1024_17 x16_5).Name.Local)),(L 3 e_api_Attr ((rd y1024_17 x16_5).Attrs)),(L 6 e_api_Node ((rd y1024_17 x16_5).Kids)),(S ((rd y1024_17 x16_5).Text))]) (DLe.of_eq (congrArg D.agg (e_api_Node_c _).symm)) ?_
     refine .rn 1 ?_
     exact .dn
    obtain⟨t33,h34,H⟩:=bindE H
    obtain⟨c35,H⟩:=assertE H
    refine Ok.le (σ':=⟨[(1,(.bref 1 0)),(2,(.bref 2 0)),(3,(.v (.int .i64 x16_5))),(4,(.bref 4 0)),(14,(.sref 1024)),(15,(.v (.int .i64 (t3.length:Int)))),(16,(.v (.int .i64 x16_5)))],[(1,(.box .ex [(.v (.int .i64 y1_0_6)),(S y1_1_7),(S y1_2_8),(L 3 e_api_Attr y1_3_9),(.sref 1024),(S y1_5_10)])),(2,(.box .ex [(.v (.int .i64 y2_0_11)),(S y2_1_12),(S y2_2_13),(L 3 e_api_Attr y2_3_14),(L 6 e_api_Node y2_4_15),(S y2_5_16)])),(4,(.box .ex (c_api_Node (rd y1024_17 x16_5)))),(1024,(.rows true 27 6 (y1024_17.map e_api_Node)))]⟩) (.rf rfl rfl) ?_
    refine .dU [(1,(.bref 1 0)),(2,(.bref 2 0)),(14,(.sref 1024)),(15,(.v (.int .i64 (t3.length:Int)))),(16,(.v (.int .i64 x16_5)))] [(1,(.box .ex [(.v (.int .i64 y1_0_6)),(S y1_1_7),(S y1_2_8),(L 3 e_api_Attr y1_3_9),(.sref 1024),(S y1_5_10)])),(2,(.box .ex [(.v (.int .i64 y2_0_11)),(S y2_1_12),(S y2_2_13),(L 3 e_api_Attr y2_3_14),(L 6 e_api_Node y2_4_15),(S y2_5_16)])),(1024,(.rows true 27 6 ((y1024_17.set (Int.toNat x16_5) t33).map e_api_Node)))] [[],[0],[],[],[3],[1,2],[4,5]] mixed ?_ ?_
    ·refine .un 3 ?_
     refine .uc ⟨true,[(4,(.bref 4 0))],[(4,(.box .ex (c_api_Node (rd y1024_17 x16_5))))],(.agg (e_api_Node (rd y1024_17 x16_5))),[],false,[]⟩ ⟨.same _,trivial⟩ ⟨rfl,trivial⟩ (It2.val rfl rfl (fun T hT => (VOk.g (VOk.to (d':=(.agg (e_api_Node (rd y1024_17 x16_5)))) (.loadBAgg rfl Try.underlying27 rfl sz27 rfl hT.1 rfl) (congrArg D.agg (e_api_Node_c (rd y1024_17 x16_5)).symm))))) ?_
     refine .uc ⟨true,[(24,(.agg (e_api_Node (rd y1024_17 x16_5))))],[],(.agg (e_api_Node t33)),[],false,[]⟩ ⟨.same _,trivial⟩ trivial (It2.val rfl rfl (fun T hT => (GOk.call rfl rfl cl28 rfl (@ih _ _ h34) rfl))) ?_
     refine .uc ⟨true,[(22,(.sref 1024)),(23,(.v (.int .i64 x16_5)))],[(1024,(.rows true 27 6 (y1024_17.map e_api_Node)))],(.eref 1024 (Int.toNat x16_5) 0),[],false,[]⟩ ⟨.same _,.same _,trivial⟩ ⟨rfl,trivial⟩ (It2.val rfl rfl (fun T hT => (VOk.g (VOk.indexTL (e:=e_api_Node) (xs:=y1024_17) (i:=x16_5) rfl Try.underlying25 sz27 rfl hT.1 rfl c35)))) ?_
     refine .uc ⟨true,[(26,(.eref 1024 (Int.toNat x16_5) 0)),(25,(.agg (e_api_Node t33)))],[(1024,(.rows true 27 6 (y1024_17.map e_api_Node)))],.junk,[(1024,(.rows true 27 6 ((y1024_17.set (Int.toNat x16_5) t33).map e_api_Node)))],false,[]⟩ ⟨.same _,.same _,trivial⟩ ⟨rfl,trivial⟩ (It2.storeEL (e:=e_api_Node) (xs:=y1024_17) (i:=x16_5) (y:=t33) rfl rfl sz27 rfl rfl rfl c35 rfl rfl rfl rfl rfl rfl) ?_
     exact .dn
    refine .rg [(1,(.bref 1 0)),(2,(.bref 2 0)),(14,(.sref 1024)),(15,(.v (.int .i64 (t3.length:Int)))),(16,(.v (.int .i64 (IntKind.i64.wrap (x16_5 + 1)))))] [(1,(.box .ex [(.v (.int .i64 y1_0_6)),(S y1_1_7),(S y1_2_8),(L 3 e_api_Attr y1_3_9),(.sref 1024),(S y1_5_10)])),(2,(.box .ex [(.v (.int .i64 y2_0_11)),(S y2_1_12),(S y2_2_13),(L 3 e_api_Attr y2_3_14),(L 6 e_api_Node y2_4_15),(S y2_5_16)])),(1024,(.rows true 27 6 ((y1024_17.set (Int.toNat x16_5) t33).map e_api_Node)))] ?_
    exact⟨m31,Nat.lt_succ_self m31,y1_0_6,y1_1_7,y1_2_8,y1_3_9,y1_5_10,y2_0_11,y2_1_12,y2_2_13,y2_3_14,y2_4_15,y2_5_16,(y1024_17.set (Int.toNat x16_5) t33),(IntKind.i64.wrap (x16_5 + 1)),rfl,H⟩
   ·replace H:=ifF H hb36
    refine Ok.exit ?_
    refine Ok.seq ?_
    refine Ok.region (σ':=⟨[(2,(.bref 2 0))],[(2,(.box .ex (c_api_Node (T_api_Node.mk y1_0_6 (T_api_Name.mk y1_1_7 y1_2_8) y1_3_9 y1024_17 y1_5_10))))]⟩) ?_ ?_
    ·refine OpsOk.frzL 1024 (e:=e_api_Node) (xs:=y1024_17) rfl ?_
     refine .cv (VOk.to (d':=(.agg (e_api_Node (T_api_Node.mk y1_0_6 (T_api_Name.mk y1_1_7 y1_2_8) y1_3_9 y1024_17 y1_5_10)))) (.loadBAgg rfl Try.underlying27 rfl sz27 rfl rfl rfl) (congrArg D.agg (e_api_Node_c (T_api_Node.mk y1_0_6 (T_api_Name.mk y1_1_7 y1_2_8) y1_3_9 y1024_17 y1_5_10)).symm)) rfl rfl ?_
     refine OpsOk.cut1 28 (.agg [(.v (.int .i64 ((T_api_Node.mk y1_0_6 (T_api_Name.mk y1_1_7 y1_2_8) y1_3_9 y1024_17 y1_5_10).Kind))),(S ((T_api_Node.mk y1_0_6 (T_api_Name.mk y1_1_7 y1_2_8) y1_3_9 y1024_17 y1_5_10).Name.Space)),(S ((T_api_Node.mk y1_0_6 (T_api_Name.mk y1_1_7 y1_2_8) y1_3_9 y1024_17 y1_5_10).Name.Local)),(L 3 e_api_Attr ((T_api_Node.mk y1_0_6 (T_api_Name.mk y1_1_7 y1_2_8) y1_3_9 y1024_17 y1_5_10).Attrs)),(L 6 e_api_Node ((T_api_Node.mk y1_0_6 (T_api_Name.mk y1_1_7 y1_2_8) y1_3_9 y1024_17 y1_5_10).Kids)),(S ((T_api_Node.mk y1_0_6 (T_api_Name.mk y1_1_7 y1_2_8) y1_3_9 y1024_17 y1_5_10).Text))]) (DLe.of_eq (congrArg D.agg (e_api_Node_c _).symm)) ?_
     refine .rn 1 ?_
     exact .dn
    refine Ok.ret ?_
    obtain rfl:=Option.some.inj H
    exact⟨.inl rfl,⟨_,(.cons (.cell (VOk.to (d':=(.agg (e_api_Node (T_api_Node.mk y1_0_6 (T_api_Name.mk y1_1_7 y1_2_8) y1_3_9 y1024_17 y1_5_10)))) (.loadBAgg rfl Try.underlying27 rfl sz27 rfl rfl rfl) (congrArg D.agg (e_api_Node_c (T_api_Node.mk y1_0_6 (T_api_Name.mk y1_1_7 y1_2_8) y1_3_9 y1024_17 y1_5_10)).symm))) .nil),rfl⟩,trivial⟩
def path_At.l0 (k:Nat) (a1:List Int):Nat→Int→Str→Str→List T_api_Attr→List T_api_Node→Str→Int→Str→Str→List T_api_Attr→List T_api_Node→Str→Int→Option (T_api_Node × Bool)
 | 0,_,_,_,_,_,_,_,_,_,_,_,_,_ => none
 | m27 + 1,y2_0_2,y2_1_3,y2_2_4,y2_3_5,y2_4_6,y2_5_7,y4_0_8,y4_1_9,y4_2_10,y4_3_11,y4_4_12,y4_5_13,x10_1 => (if (decide (x10_1 < (a1.length:Int)))=true then (if (0:Int) ≤ x10_1 ∧ x10_1 < (a1.length:Int) then ((path_kid (T_api_Node.mk y2_0_2 (T_api_Name.mk y2_1_3 y2_2_4) y2_3_5 y2_4_6 y2_5_7) (rd a1 x10_1)).bind fun (t29:Bool) => (if (!t29)=true then some ((T_api_Node.mk 0 (T_api_Name.mk ([]:Str) ([]:Str)) ([]:List T_api_Attr) ([]:List T_api_Node) ([]:Str)),false) else (if (0:Int) ≤ (rd a1 x10_1) ∧ (rd a1 x10_1) < (y2_4_6.length:Int) then path_At.l0 k a1 m27 ((rd y2_4_6 (rd a1 x10_1)).Kind) ((rd y2_4_6 (rd a1 x10_1)).Name.Space) ((rd y2_4_6 (rd a1 x10_1)).Name.Local) ((rd y2_4_6 (rd a1 x10_1)).Attrs) ((rd y2_4_6 (rd a1 x10_1)).Kids) ((rd y2_4_6 (rd a1 x10_1)).Text) y4_0_8 y4_1_9 y4_2_10 y4_3_11 y4_4_12 y4_5_13 (IntKind.i64.wrap (x10_1 + 1)) else none))) else none) else ((tree_Copy k (T_api_Node.mk y2_0_2 (T_api_Name.mk y2_1_3 y2_2_4) y2_3_5 y2_4_6 y2_5_7)).bind fun (t33:T_api_Node) => some (t33,true)))
def path_At (k:Nat) (a0:T_api_Node) (a1:List Int):Option (T_api_Node × Bool):=path_At.l0 k a1 k a0.Kind a0.Name.Space a0.Name.Local a0.Attrs a0.Kids a0.Text 0 ([]:Str) ([]:Str) ([]:List T_api_Attr) ([]:List T_api_Node) ([]:Str) 0
theorem path_At.ok {k:Nat} {a0:T_api_Node} {a1:List Int} {r:T_api_Node × Bool} (H:path_At k a0 a1=some r):Vx.Fn Try.prog 10 [(.agg (e_api_Node a0)),(L 1 (eI .i64) a1)] [] (.tup [(.agg (e_api_Node r.1)),(.v (.bool r.2))]) []:=by
 unfold path_At at H
 refine Vx.Fn.of_okR Try.func10 rfl (Nat.le_of_ble_eq_true rfl) ?_
 refine Ok.seq ?_
 refine Ok.region (σ':=⟨[(1,(L 1 (eI .i64) a1)),(2,(.bref 2 0)),(4,(.bref 4 0))],[(2,(bxN a0)),(4,bx0)]⟩) ?_ ?_
 ·refine OpsOk.cut1 0 (.agg (c_api_Node a0)) (DLe.of_eq (congrArg D.agg (e_api_Node_c _).symm)) ?_
  refine .rn 3 ?_
  exact .dn
 refine Ok.seq ?_
 refine Ok.seq ?_
 refine Ok.region (σ':=⟨[(2,(.bref 2 0)),(4,(.bref 4 0)),(8,(L 1 (eI .i64) a1)),(9,(.v (.int .i64 (a1.length:Int)))),(10,(.v (.int .i64 0)))],[(2,(bxN a0)),(4,bx0)]⟩) ?_ ?_
 ·refine .rn 1 ?_
  refine .cv (VOk.lenL (e:=(eI .i64)) (xs:=a1) rfl Try.underlying34 rfl) rfl rfl ?_
  refine .rn 1 ?_
  exact .dn
 refine Ok.block ?_
 refine Ok.loop (fun m27 σ => ∃ (y2_0_2:Int) (y2_1_3:Str) (y2_2_4:Str) (y2_3_5:List T_api_Attr) (y2_4_6:List T_api_Node) (y2_5_7:Str) (y4_0_8:Int) (y4_1_9:Str) (y4_2_10:Str) (y4_3_11:List T_api_Attr) (y4_4_12:List T_api_Node) (y4_5_13:Str) (x10_1:Int),σ=⟨[(2,(.bref 2 0)),(4,(.bref 4 0)),(8,(L 1 (eI .i64) a1)),(9,(.v (.int .i64 (a1.length:Int)))),(10,(.v (.int .i64 x10_1)))],[(2,(.box .ex [(.v (.int .i64 y2_0_2)),(S y2_1_3),(S y2_2_4),(L 3 e_api_Attr y2_3_5),(L 6 e_api_Node y2_4_6),(S y2_5_7)])),(4,(.box .ex [(.v (.int .i64 y4_0_8)),(S y4_1_9),(S y4_2_10),(L 3 e_api_Attr y4_3_11),(L 6 e_api_Node y4_4_12),(S y4_5_13)]))]⟩ ∧ path_At.l0 k a1 m27 y2_0_2 y2_1_3 y2_2_4 y2_3_5 y2_4_6 y2_5_7 y4_0_8 y4_1_9 y4_2_10 y4_3_11 y4_4_12 y4_5_13 x10_1=some r) k ⟨a0.Kind,a0.Name.Space,a0.Name.Local,a0.Attrs,a0.Kids,a0.Text,0,([]:Str),([]:Str),([]:List T_api_Attr),([]:List T_api_Node),([]:Str),0,rfl,H⟩ ?_
 rintro m27 σ ⟨y2_0_2,y2_1_3,y2_2_4,y2_3_5,y2_4_6,y2_5_7,y4_0_8,y4_1_9,y4_2_10,y4_3_11,y4_4_12,y4_5_13,x10_1,rfl,H⟩
 cases m27 with
 | zero => exact absurd H (by simp [path_At.l0])
 | succ m27 =>
  unfold path_At.l0 at H
  refine Ok.seq ?_
  refine .rg [(2,(.bref 2 0)),(4,(.bref 4 0)),(8,(L 1 (eI .i64) a1)),(9,(.v (.int .i64 (a1.length:Int)))),(10,(.v (.int .i64 x10_1))),(11,(.v (.bool (decide (x10_1 < (a1.length:Int))))))] [(2,(.box .ex [(.v (.int .i64 y2_0_2)),(S y2_1_3),(S y2_2_4),(L 3 e_api_Attr y2_3_5),(L 6 e_api_Node y2_4_6),(S y2_5_7)])),(4,(.box .ex [(.v (.int .i64 y4_0_8)),(S y4_1_9),(S y4_2_10),(L 3 e_api_Attr y4_3_11),(L 6 e_api_Node y4_4_12),(S y4_5_13)]))] ?_
  refine Ok.seq ?_
  refine Ok.test (b:=(decide (x10_1 < (a1.length:Int)))) rfl (fun hb35 => ?_) (fun hb35 => ?_)
  ·replace H:=ifT H hb35
   refine Ok.skip ?_
   refine Ok.seq ?_
   refine Ok.block ?_
   refine Ok.seq ?_
   obtain⟨c28,H⟩:=assertE H
   refine Ok.region (σ':=⟨[(2,(.bref 2 0)),(4,(.bref 4 0)),(7,(.v (.int .i64 (rd a1 x10_1)))),(8,(L 1 (eI .i64) a1)),(9,(.v (.int .i64 (a1.length:Int)))),(10,(.v (.int .i64 x10_1)))],[(2,(.box .ex [(.v (.int .i64 y2_0_2)),(S y2_1_3),(S y2_2_4),(L 3 e_api_Attr y2_3_5),(L 6 e_api_Node y2_4_6),(S y2_5_7)])),(4,(.box .ex [(.v (.int .i64 y4_0_8)),(S y4_1_9),(S y4_2_10),(L 3 e_api_Attr y4_3_11),(L 6 e_api_Node y4_4_12),(S y4_5_13)]))]⟩) ?_ ?_
   ·refine .cv (VOk.indexL (sz:=1) (e:=(eI .i64)) (xs:=a1) (i:=x10_1) rfl Try.underlying34 sz3 rfl rfl c28) rfl rfl ?_
    refine .rn 2 ?_
    exact .dn
   refine Ok.seq ?_
   refine Ok.seq ?_
   obtain⟨t29,h30,H⟩:=bindE H
   refine Ok.region (σ':=⟨[(2,(.bref 2 0)),(4,(.bref 4 0)),(7,(.v (.int .i64 (rd a1 x10_1)))),(8,(L 1 (eI .i64) a1)),(9,(.v (.int .i64 (a1.length:Int)))),(10,(.v (.int .i64 x10_1))),(17,(.v (.bool (!t29))))],[(2,(.box .ex [(.v (.int .i64 y2_0_2)),(S y2_1_3),(S y2_2_4),(L 3 e_api_Attr y2_3_5),(L 6 e_api_Node y2_4_6),(S y2_5_7)])),(4,(.box .ex [(.v (.int .i64 y4_0_8)),(S y4_1_9),(S y4_2_10),(L 3 e_api_Attr y4_3_11),(L 6 e_api_Node y4_4_12),(S y4_5_13)]))]⟩) ?_ ?_
   ·refine .cv (VOk.to (d':=(.agg (e_api_Node (T_api_Node.mk y2_0_2 (T_api_Name.mk y2_1_3 y2_2_4) y2_3_5 y2_4_6 y2_5_7)))) (.loadBAgg rfl Try.underlying27 rfl sz27 rfl rfl rfl) (congrArg D.agg (e_api_Node_c (T_api_Node.mk y2_0_2 (T_api_Name.mk y2_1_3 y2_2_4) y2_3_5 y2_4_6 y2_5_7)).symm)) rfl rfl ?_
    refine .rn 1 ?_
    refine .cg (GOk.call rfl rfl cl27 rfl (path_kid.ok h30) rfl) rfl rfl ?_
    refine .rn 1 ?_
    exact .dn
   refine Ok.test (b:=(!t29)) rfl (fun hb32 => ?_) (fun hb32 => ?_)
   ·replace H:=ifT H hb32
    refine Ok.seq ?_
    refine Ok.region (σ':=⟨[(4,(.bref 4 0)),(5,(.v (.bool false)))],[(4,(.box .ex (c_api_Node (T_api_Node.mk 0 (T_api_Name.mk ([]:Str) ([]:Str)) ([]:List T_api_Attr) ([]:List T_api_Node) ([]:Str)))))]⟩) ?_ ?_
    ·refine .cv (VOk.to (d':=(.agg (e_api_Node (T_api_Node.mk 0 (T_api_Name.mk ([]:Str) ([]:Str)) ([]:List T_api_Attr) ([]:List T_api_Node) ([]:Str))))) (.build [none,none,none,some 3,some 6,none] [(0,1),(1,2),(3,1),(4,1),(5,1)] rfl Try.underlying27 (fa27 Try.underlying27) zo27 rfl rfl) (congrArg D.agg (e_api_Node_c (T_api_Node.mk 0 (T_api_Name.mk ([]:Str) ([]:Str)) ([]:List T_api_Attr) ([]:List T_api_Node) ([]:Str))).symm)) rfl rfl ?_
     refine OpsOk.cut1 18 (.agg [(.v (.int .i64 ((T_api_Node.mk 0 (T_api_Name.mk ([]:Str) ([]:Str)) ([]:List T_api_Attr) ([]:List T_api_Node) ([]:Str)).Kind))),(S ((T_api_Node.mk 0 (T_api_Name.mk ([]:Str) ([]:Str)) ([]:List T_api_Attr) ([]:List T_api_Node) ([]:Str)).Name.Space)),(S ((T_api_Node.mk 0 (T_api_Name.mk ([]:Str) ([]:Str)) ([]:List T_api_Attr) ([]:List T_api_Node) ([]:Str)).Name.Local)),(L 3 e_api_Attr ((T_api_Node.mk 0 (T_api_Name.mk ([]:Str) ([]:Str)) ([]:List T_api_Attr) ([]:List T_api_Node) ([]:Str)).Attrs)),(L 6 e_api_Node ((T_api_Node.mk 0 (T_api_Name.mk ([]:Str) ([]:Str)) ([]:List T_api_Attr) ([]:List T_api_Node) ([]:Str)).Kids)),(S ((T_api_Node.mk 0 (T_api_Name.mk ([]:Str) ([]:Str)) ([]:List T_api_Attr) ([]:List T_api_Node) ([]:Str)).Text))]) (DLe.of_eq (congrArg D.agg (e_api_Node_c _).symm)) ?_
     refine .rn 2 ?_
     exact .dn
    refine Ok.ret ?_
    obtain rfl:=Option.some.inj H
    exact⟨.inl rfl,⟨_,(.cons (.cell (VOk.to (d':=(.agg (e_api_Node (T_api_Node.mk 0 (T_api_Name.mk ([]:Str) ([]:Str)) ([]:List T_api_Attr) ([]:List T_api_Node) ([]:Str))))) (.loadBAgg rfl Try.underlying27 rfl sz27 rfl rfl rfl) (congrArg D.agg (e_api_Node_c (T_api_Node.mk 0 (T_api_Name.mk ([]:Str) ([]:Str)) ([]:List T_api_Attr) ([]:List T_api_Node) ([]:Str))).symm))) (.cons (.tmp rfl) .nil)),rfl⟩,trivial⟩
   ·replace H:=ifF H hb32
    refine Ok.skip ?_
    obtain⟨c31,H⟩:=assertE H
    refine Ok.region (σ':=⟨[(2,(.bref 2 0)),(4,(.bref 4 0)),(8,(L 1 (eI .i64) a1)),(9,(.v (.int .i64 (a1.length:Int)))),(10,(.v (.int .i64 x10_1)))],[(2,(.box .ex (c_api_Node (rd y2_4_6 (rd a1 x10_1))))),(4,(.box .ex [(.v (.int .i64 y4_0_8)),(S y4_1_9),(S y4_2_10),(L 3 e_api_Attr y4_3_11),(L 6 e_api_Node y4_4_12),(S y4_5_13)]))]⟩) ?_ ?_
    ·refine .rn 3 ?_
     refine .cv (VOk.indexL (sz:=6) (e:=e_api_Node) (xs:=y2_4_6) (i:=(rd a1 x10_1)) rfl Try.underlying25 sz27 rfl rfl c31) rfl rfl ?_
     refine .rn 1 ?_
     refine OpsOk.cut1 23 (.agg [(.v (.int .i64 ((rd y2_4_6 (rd a1 x10_1)).Kind))),(S ((rd y2_4_6 (rd a1 x10_1)).Name.Space)),(S ((rd y2_4_6 (rd a1 x10_1)).Name.Local)),(L 3 e_api_Attr ((rd y2_4_6 (rd a1 x10_1)).Attrs)),(L 6 e_api_Node ((rd y2_4_6 (rd a1 x10_1)).Kids)),(S ((rd y2_4_6 (rd a1 x10_1)).Text))]) (DLe.of_eq (congrArg D.agg (e_api_Node_c _).symm)) ?_
     refine .rn 1 ?_
     exact .dn
    refine .rg [(2,(.bref 2 0)),(4,(.bref 4 0)),(8,(L 1 (eI .i64) a1)),(9,(.v (.int .i64 (a1.length:Int)))),(10,(.v (.int .i64 (IntKind.i64.wrap (x10_1 + 1)))))] [(2,(.box .ex (c_api_Node (rd y2_4_6 (rd a1 x10_1))))),(4,(.box .ex [(.v (.int .i64 y4_0_8)),(S y4_1_9),(S y4_2_10),(L 3 e_api_Attr y4_3_11),(L 6 e_api_Node y4_4_12),(S y4_5_13)]))] ?_
    exact⟨m27,Nat.lt_succ_self m27,((rd y2_4_6 (rd a1 x10_1)).Kind),((rd y2_4_6 (rd a1 x10_1)).Name.Space),((rd y2_4_6 (rd a1 x10_1)).Name.Local),((rd y2_4_6 (rd a1 x10_1)).Attrs),((rd y2_4_6 (rd a1 x10_1)).Kids),((rd y2_4_6 (rd a1 x10_1)).Text),y4_0_8,y4_1_9,y4_2_10,y4_3_11,y4_4_12,y4_5_13,(IntKind.i64.wrap (x10_1 + 1)),rfl,H⟩
  ·replace H:=ifF H hb35
   refine Ok.exit ?_
   refine Ok.seq ?_
   obtain⟨t33,h34,H⟩:=bindE H
   refine Ok.region (σ':=⟨[(4,(.bref 4 0)),(5,(.v (.bool true)))],[(4,(bxN t33))]⟩) ?_ ?_
   ·refine .cv (VOk.to (d':=(.agg (e_api_Node (T_api_Node.mk y2_0_2 (T_api_Name.mk y2_1_3 y2_2_4) y2_3_5 y2_4_6 y2_5_7)))) (.loadBAgg rfl Try.underlying27 rfl sz27 rfl rfl rfl) (congrArg D.agg (e_api_Node_c (T_api_Node.mk y2_0_2 (T_api_Name.mk y2_1_3 y2_2_4) y2_3_5 y2_4_6 y2_5_7)).symm)) rfl rfl ?_
    refine .cg (GOk.call rfl rfl cl28 rfl (tree_Copy.ok h34) rfl) rfl rfl ?_
    refine OpsOk.cut1 26 (.agg (c_api_Node t33)) (DLe.of_eq (congrArg D.agg (e_api_Node_c _).symm)) ?_
    refine .rn 2 ?_
    exact .dn
   refine Ok.ret ?_
   obtain rfl:=Option.some.inj H
   exact⟨.inl rfl,⟨_,(.cons (.cell (VOk.to (d':=(.agg (e_api_Node t33))) (.loadBAgg rfl Try.underlying27 rfl sz27 rfl rfl rfl) (congrArg D.agg (e_api_Node_c t33).symm))) (.cons (.tmp rfl) .nil)),rfl⟩,trivial⟩
def change_siblings.l0 (k:Nat) (a0:T_api_Node):Nat→Int→Bool→Str→Str→Int→Bool→Str→Str→Str→List Int→Int→Option (List Int)
 | 0,_,_,_,_,_,_,_,_,_,_,_ => none
 | m23 + 1,y3_0_2,y3_1_3,y3_2_4,y3_3_5,y3_4_6,y3_5_7,y3_6_8,y3_7_9,y3_8_10,y5_11,x11_1 => (if (decide (x11_1 < (a0.Kids.length:Int)))=true then (if (0:Int) ≤ x11_1 ∧ x11_1 < (a0.Kids.length:Int) then (if ((((rd a0.Kids x11_1).Kind) == 1) && (y3_1_3 || (((rd a0.Kids x11_1).Name).Space == (T_api_Name.mk y3_2_4 y3_3_5).Space && (((rd a0.Kids x11_1).Name).Local == (T_api_Name.mk y3_2_4 y3_3_5).Local && true))))=true then (if (y5_11.length + ([x11_1]:List Int).length) * 8 ≤ 140737488355328 then change_siblings.l0 k a0 m23 y3_0_2 y3_1_3 y3_2_4 y3_3_5 y3_4_6 y3_5_7 y3_6_8 y3_7_9 y3_8_10 (y5_11 ++ ([x11_1]:List Int)) (IntKind.i64.wrap (x11_1 + 1)) else none) else change_siblings.l0 k a0 m23 y3_0_2 y3_1_3 y3_2_4 y3_3_5 y3_4_6 y3_5_7 y3_6_8 y3_7_9 y3_8_10 y5_11 (IntKind.i64.wrap (x11_1 + 1))) else none) else some y5_11)
def change_siblings (k:Nat) (a0:T_api_Node) (a1:T_api_Step):Option (List Int):=change_siblings.l0 k a0 k a1.Kind a1.Any a1.Name.Space a1.Name.Local a1.Pos a1.By a1.Attr.Space a1.Attr.Local a1.Value ([]:List Int) 0
theorem change_siblings.ok {k:Nat} {a0:T_api_Node} {a1:T_api_Step} {r:(List Int)} (H:change_siblings k a0 a1=some r):Vx.Fn Try.prog 58 [(.agg (e_api_Node a0)),(.agg (e_api_Step a1))] [] (L 1 (eI .i64) r) []:=by
 unfold change_siblings at H
 refine Vx.Fn.of_okR Try.func58 rfl (Nat.le_of_ble_eq_true rfl) ?_
 refine Ok.seq ?_
 refine Ok.region (σ':=⟨[(2,(.bref 2 0)),(3,(.bref 3 0))],[(2,(bxN a0)),(3,(.box .ex (c_api_Step a1)))]⟩) ?_ ?_
 ·refine OpsOk.cut1 0 (.agg (c_api_Node a0)) (DLe.of_eq (congrArg D.agg (e_api_Node_c _).symm)) ?_
  refine .rn 3 ?_
  exact .dn
 refine Ok.seq ?_
 refine Ok.region (σ':=⟨[(2,(.bref 2 0)),(3,(.bref 3 0)),(5,(.sref 5))],[(2,(bxN a0)),(3,(.box .ex (c_api_Step a1))),(5,(.rows true 3 1 (([]:List Int).map (eI .i64))))]⟩) ?_ ?_
 ·refine OpsOk.cons rfl (.nilT 5 3 1 (.inl rfl) rfl rfl) ?_
  exact .dn
 refine Ok.seq ?_
 refine Ok.seq ?_
 refine Ok.region (σ':=⟨[(3,(.bref 3 0)),(5,(.sref 5)),(9,(L 6 e_api_Node a0.Kids)),(10,(.v (.int .i64 (a0.Kids.length:Int)))),(11,(.v (.int .i64 0)))],[(3,(.box .ex (c_api_Step a1))),(5,(.rows true 3 1 (([]:List Int).map (eI .i64))))]⟩) ?_ ?_
 ·refine .rn 2 ?_
  refine .cv (VOk.lenL (e:=e_api_Node) (xs:=a0.Kids) rfl Try.underlying25 rfl) rfl rfl ?_
  refine .rn 1 ?_
  exact .dn
 refine Ok.block ?_
 refine Ok.loop (fun m23 σ => ∃ (y3_0_2:Int) (y3_1_3:Bool) (y3_2_4:Str) (y3_3_5:Str) (y3_4_6:Int) (y3_5_7:Bool) (y3_6_8:Str) (y3_7_9:Str) (y3_8_10:Str) (y5_11:List Int) (x11_1:Int),σ=⟨[(3,(.bref 3 0)),(5,(.sref 5)),(9,(L 6 e_api_Node a0.Kids)),(10,(.v (.int .i64 (a0.Kids.length:Int)))),(11,(.v (.int .i64 x11_1)))],[(3,(.box .ex [(.v (.int .i64 y3_0_2)),(.v (.bool y3_1_3)),(S y3_2_4),(S y3_3_5),(.v (.int .i64 y3_4_6)),(.v (.bool y3_5_7)),(S y3_6_8),(S y3_7_9),(S y3_8_10)])),(5,(.rows true 3 1 (y5_11.map (eI .i64))))]⟩ ∧ change_siblings.l0 k a0 m23 y3_0_2 y3_1_3 y3_2_4 y3_3_5 y3_4_6 y3_5_7 y3_6_8 y3_7_9 y3_8_10 y5_11 x11_1=some r) k ⟨a1.Kind,a1.Any,a1.Name.Space,a1.Name.Local,a1.Pos,a1.By,a1.Attr.Space,a1.Attr.Local,a1.Value,([]:List Int),0,rfl,H⟩ ?_
 rintro m23 σ ⟨y3_0_2,y3_1_3,y3_2_4,y3_3_5,y3_4_6,y3_5_7,y3_6_8,y3_7_9,y3_8_10,y5_11,x11_1,rfl,H⟩
 cases m23 with
 | zero => exact absurd H (by simp [change_siblings.l0])
 | succ m23 =>
  unfold change_siblings.l0 at H
  refine Ok.seq ?_
  refine .rg [(3,(.bref 3 0)),(5,(.sref 5)),(9,(L 6 e_api_Node a0.Kids)),(10,(.v (.int .i64 (a0.Kids.length:Int)))),(11,(.v (.int .i64 x11_1))),(12,(.v (.bool (decide (x11_1 < (a0.Kids.length:Int))))))] [(3,(.box .ex [(.v (.int .i64 y3_0_2)),(.v (.bool y3_1_3)),(S y3_2_4),(S y3_3_5),(.v (.int .i64 y3_4_6)),(.v (.bool y3_5_7)),(S y3_6_8),(S y3_7_9),(S y3_8_10)])),(5,(.rows true 3 1 (y5_11.map (eI .i64))))] ?_
  refine Ok.seq ?_
  refine Ok.test (b:=(decide (x11_1 < (a0.Kids.length:Int)))) rfl (fun hb31 => ?_) (fun hb31 => ?_)
  ·replace H:=ifT H hb31
   refine Ok.skip ?_
   refine Ok.seq ?_
   refine Ok.block ?_
   refine Ok.seq ?_
   obtain⟨c24,H⟩:=assertE H
   refine Ok.region (σ':=⟨[(3,(.bref 3 0)),(5,(.sref 5)),(6,(.v (.int .i64 x11_1))),(7,(.bref 7 0)),(9,(L 6 e_api_Node a0.Kids)),(10,(.v (.int .i64 (a0.Kids.length:Int)))),(11,(.v (.int .i64 x11_1)))],[(3,(.box .ex [(.v (.int .i64 y3_0_2)),(.v (.bool y3_1_3)),(S y3_2_4),(S y3_3_5),(.v (.int .i64 y3_4_6)),(.v (.bool y3_5_7)),(S y3_6_8),(S y3_7_9),(S y3_8_10)])),(5,(.rows true 3 1 (y5_11.map (eI .i64)))),(7,(.box .ex (c_api_Node (rd a0.Kids x11_1))))]⟩) ?_ ?_
   ·refine .rn 1 ?_
    refine .cv (VOk.indexL (sz:=6) (e:=e_api_Node) (xs:=a0.Kids) (i:=x11_1) rfl Try.underlying25 sz27 rfl rfl c24) rfl rfl ?_
    refine .rn 3 ?_
    refine OpsOk.cut1 15 (.agg [(.v (.int .i64 ((rd a0.Kids x11_1).Kind))),(S ((rd a0.Kids x11_1).Name.Space)),(S ((rd a0.Kids x11_1).Name.Local)),(L 3 e_api_Attr ((rd a0.Kids x11_1).Attrs)),(L 6 e_api_Node ((rd a0.Kids x11_1).Kids)),(S ((rd a0.Kids x11_1).Text))]) (DLe.of_eq (congrArg D.agg (e_api_Node_c _).symm)) ?_
    refine .rn 1 ?_
    exact .dn
   refine Ok.seq ?_
   refine Ok.region (σ':=⟨[(3,(.bref 3 0)),(5,(.sref 5)),(6,(.v (.int .i64 x11_1))),(9,(L 6 e_api_Node a0.Kids)),(10,(.v (.int .i64 (a0.Kids.length:Int)))),(11,(.v (.int .i64 x11_1))),(29,(.v (.bool ((((rd a0.Kids x11_1).Kind) == 1) && (y3_1_3 || (((rd a0.Kids x11_1).Name).Space == (T_api_Name.mk y3_2_4 y3_3_5).Space && (((rd a0.Kids x11_1).Name).Local == (T_api_Name.mk y3_2_4 y3_3_5).Local && true)))))))],[(3,(.box .ex [(.v (.int .i64 y3_0_2)),(.v (.bool y3_1_3)),(S y3_2_4),(S y3_3_5),(.v (.int .i64 y3_4_6)),(.v (.bool y3_5_7)),(S y3_6_8),(S y3_7_9),(S y3_8_10)])),(5,(.rows true 3 1 (y5_11.map (eI .i64))))]⟩) ?_ ?_
   ·refine .rn 4 ?_
    refine OpsOk.consI rfl rfl rfl (.one rfl) rfl (fun hw25 => (VOk.g (VOk.to (VOk.fieldB rfl Try.underlying45 rfl sz4 rfl rfl) rfl))) ?_
    refine OpsOk.consI rfl rfl rfl (.one rfl) rfl (fun hw25 => (GOk.fr (fr':=[(20,(.bref 3 1))]) ⟨DLe.of_eq (cT hw25).symm,trivial⟩ (VOk.g (VOk.loadB (d:=(.v (.bool y3_1_3))) rfl Try.underlying4 rfl rfl rfl rfl)))) ?_
    refine OpsOk.consI rfl rfl rfl (.one rfl) rfl (fun hw25 => (GOk.fr (fr':=[(21,(.v (.bool y3_1_3)))]) ⟨DLe.of_eq (cT hw25).symm,trivial⟩ (VOk.g (VOk.mv (d:=(.v (.bool y3_1_3))) rfl rfl)))) ?_
    refine OpsOk.consI rfl rfl rfl (.two rfl) rfl (fun hw26 => (VOk.g (VOk.to (VOk.fieldB rfl Try.underlying27 rfl sz23 rfl rfl) rfl))) ?_
    refine OpsOk.consI rfl rfl rfl (.two rfl) rfl (fun hw26 => (GOk.fr (fr':=[(23,(.bref 7 1))]) ⟨DLe.of_eq (cT hw26).symm,trivial⟩ (VOk.g (VOk.to (d':=(.agg (e_api_Name ((rd a0.Kids x11_1).Name)))) (.loadBAgg rfl Try.underlying23 rfl sz23 rfl rfl rfl) rfl)))) ?_
    refine OpsOk.consI rfl rfl rfl (.two rfl) rfl (fun hw26 => (VOk.g (VOk.to (VOk.fieldB rfl Try.underlying45 rfl sz23 rfl rfl) rfl))) ?_
    refine OpsOk.consI rfl rfl rfl (.two rfl) rfl (fun hw26 => (GOk.fr (fr':=[(25,(.bref 3 2))]) ⟨DLe.of_eq (cT hw26).symm,trivial⟩ (VOk.g (VOk.to (d':=(.agg (e_api_Name (T_api_Name.mk y3_2_4 y3_3_5)))) (.loadBAgg rfl Try.underlying23 rfl sz23 rfl rfl rfl) rfl)))) ?_
    refine OpsOk.consI rfl rfl rfl (.two rfl) rfl (fun hw26 => (GOk.fr (fr':=[(24,(.agg (e_api_Name ((rd a0.Kids x11_1).Name)))),(26,(.agg (e_api_Name (T_api_Name.mk y3_2_4 y3_3_5))))]) ⟨DLe.of_eq (cT hw26).symm,DLe.of_eq (cT hw26).symm,trivial⟩ (VOk.g (VOk.eqS' (op:=.eql) (d:=(.v (.bool (((rd a0.Kids x11_1).Name).Space == (T_api_Name.mk y3_2_4 y3_3_5).Space && (((rd a0.Kids x11_1).Name).Local == (T_api_Name.mk y3_2_4 y3_3_5).Local && true))))) rfl (.inl rfl) (eqt23 9998) ag23 eg23 rfl rfl rfl rfl)))) ?_
    refine OpsOk.consI rfl rfl rfl (.one rfl) rfl (fun hw25 => (VOk.g (VOk.to (VOk.pickI (b:=y3_1_3) (p:=true) (q:=(((rd a0.Kids x11_1).Name).Space == (T_api_Name.mk y3_2_4 y3_3_5).Space && (((rd a0.Kids x11_1).Name).Local == (T_api_Name.mk y3_2_4 y3_3_5).Local && true))) rfl (cT hw25) (fun hp27 => rfl) (fun hp27 => (cT (and_i hw25 (f_beq hp27))))) (pickOr y3_1_3 (((rd a0.Kids x11_1).Name).Space == (T_api_Name.mk y3_2_4 y3_3_5).Space && (((rd a0.Kids x11_1).Name).Local == (T_api_Name.mk y3_2_4 y3_3_5).Local && true)))))) ?_
    refine .cv (VOk.to (VOk.pickI (b:=(((rd a0.Kids x11_1).Kind) == 1)) (p:=(y3_1_3 || (((rd a0.Kids x11_1).Name).Space == (T_api_Name.mk y3_2_4 y3_3_5).Space && (((rd a0.Kids x11_1).Name).Local == (T_api_Name.mk y3_2_4 y3_3_5).Local && true)))) (q:=false) rfl rfl (fun hp28 => (cT (t_beq hp28))) (fun hp28 => rfl)) (pickAnd (((rd a0.Kids x11_1).Kind) == 1) (y3_1_3 || (((rd a0.Kids x11_1).Name).Space == (T_api_Name.mk y3_2_4 y3_3_5).Space && (((rd a0.Kids x11_1).Name).Local == (T_api_Name.mk y3_2_4 y3_3_5).Local && true))))) rfl rfl ?_
    exact .dn
   refine Ok.test (b:=((((rd a0.Kids x11_1).Kind) == 1) && (y3_1_3 || (((rd a0.Kids x11_1).Name).Space == (T_api_Name.mk y3_2_4 y3_3_5).Space && (((rd a0.Kids x11_1).Name).Local == (T_api_Name.mk y3_2_4 y3_3_5).Local && true))))) rfl (fun hb30 => ?_) (fun hb30 => ?_)
   ·replace H:=ifT H hb30
    obtain⟨c29,H⟩:=assertE H
    refine Ok.region (σ':=⟨[(3,(.bref 3 0)),(5,(.sref 5)),(9,(L 6 e_api_Node a0.Kids)),(10,(.v (.int .i64 (a0.Kids.length:Int)))),(11,(.v (.int .i64 x11_1)))],[(3,(.box .ex [(.v (.int .i64 y3_0_2)),(.v (.bool y3_1_3)),(S y3_2_4),(S y3_3_5),(.v (.int .i64 y3_4_6)),(.v (.bool y3_5_7)),(S y3_6_8),(S y3_7_9),(S y3_8_10)])),(5,(.rows true 3 1 ((y5_11 ++ ([x11_1]:List Int)).map (eI .i64))))]⟩) ?_ ?_
    ·refine .rn 2 ?_
     refine .cg (GOk.to (d':=(L 1 (eI .i64) ([x11_1]:List Int))) (GOk.lit rfl Try.underlying34 sz3 zs3 rfl rfl rfl rfl) rfl) rfl rfl ?_
     refine OpsOk.cons rfl (OpOk.appendL (e:=(eI .i64)) (xs:=y5_11) (ys:=([x11_1]:List Int)) rfl Try.underlying34 elt3 rfl rfl rfl c29 rfl) ?_
     refine .rn 1 ?_
     exact .dn
    refine .rg [(3,(.bref 3 0)),(5,(.sref 5)),(9,(L 6 e_api_Node a0.Kids)),(10,(.v (.int .i64 (a0.Kids.length:Int)))),(11,(.v (.int .i64 (IntKind.i64.wrap (x11_1 + 1)))))] [(3,(.box .ex [(.v (.int .i64 y3_0_2)),(.v (.bool y3_1_3)),(S y3_2_4),(S y3_3_5),(.v (.int .i64 y3_4_6)),(.v (.bool y3_5_7)),(S y3_6_8),(S y3_7_9),(S y3_8_10)])),(5,(.rows true 3 1 ((y5_11 ++ ([x11_1]:List Int)).map (eI .i64))))] ?_
    exact⟨m23,Nat.lt_succ_self m23,y3_0_2,y3_1_3,y3_2_4,y3_3_5,y3_4_6,y3_5_7,y3_6_8,y3_7_9,y3_8_10,(y5_11 ++ ([x11_1]:List Int)),(IntKind.i64.wrap (x11_1 + 1)),rfl,H⟩
   ·replace H:=ifF H hb30
    refine Ok.skip ?_
    refine .rg [(3,(.bref 3 0)),(5,(.sref 5)),(9,(L 6 e_api_Node a0.Kids)),(10,(.v (.int .i64 (a0.Kids.length:Int)))),(11,(.v (.int .i64 (IntKind.i64.wrap (x11_1 + 1)))))] [(3,(.box .ex [(.v (.int .i64 y3_0_2)),(.v (.bool y3_1_3)),(S y3_2_4),(S y3_3_5),(.v (.int .i64 y3_4_6)),(.v (.bool y3_5_7)),(S y3_6_8),(S y3_7_9),(S y3_8_10)])),(5,(.rows true 3 1 (y5_11.map (eI .i64))))] ?_
    exact⟨m23,Nat.lt_succ_self m23,y3_0_2,y3_1_3,y3_2_4,y3_3_5,y3_4_6,y3_5_7,y3_6_8,y3_7_9,y3_8_10,y5_11,(IntKind.i64.wrap (x11_1 + 1)),rfl,H⟩
  ·replace H:=ifF H hb31
   refine Ok.exit ?_
   refine Ok.seq ?_
   refine .rg [(4,(.sref 5))] [(5,(.rows true 3 1 (y5_11.map (eI .i64))))] ?_
   refine Ok.frzL 5 (e:=(eI .i64)) (xs:=y5_11) rfl ?_
   refine Ok.ret ?_
   obtain rfl:=Option.some.inj H
   exact⟨.inl rfl,⟨_,(.cons (.tmp rfl) .nil),rfl⟩,trivial⟩
def change_place.j0 (a1:T_api_Step) (t1:(List Int)) (x7_3:Int):Option (Int × Bool):=(if ((a1.Pos == 0) || (a1.Pos == (IntKind.i64.wrap ((t1.length:Int) + 1))))=true then some (x7_3,true) else (if ((decide (a1.Pos > 0)) && (decide (a1.Pos ≤ (t1.length:Int))))=true then (if (0:Int) ≤ (IntKind.i64.wrap (a1.Pos - 1)) ∧ (IntKind.i64.wrap (a1.Pos - 1)) < (t1.length:Int) then some ((rd t1 (IntKind.i64.wrap (a1.Pos - 1))),true) else none) else some (0,false)))
def change_place (k:Nat) (a0:T_api_Node) (a1:T_api_Step):Option (Int × Bool):=((change_siblings k a0 a1).bind fun (t1:(List Int)) => (if (decide ((t1.length:Int) > 0))=true then (if (0:Int) ≤ (IntKind.i64.wrap ((t1.length:Int) - 1)) ∧ (IntKind.i64.wrap ((t1.length:Int) - 1)) < (t1.length:Int) then change_place.j0 a1 t1 (IntKind.i64.wrap ((rd t1 (IntKind.i64.wrap ((t1.length:Int) - 1))) + 1)) else none) else change_place.j0 a1 t1 (a0.Kids.length:Int)))
theorem change_place.ok {k:Nat} {a0:T_api_Node} {a1:T_api_Step} {r:Int × Bool} (H:change_place k a0 a1=some r):Vx.Fn Try.prog 37 [(.agg (e_api_Node a0)),(.agg (e_api_Step a1))] [] (.tup [(.v (.int .i64 r.1)),(.v (.bool r.2))]) []:=by
 unfold change_place at H
 refine Vx.Fn.of_okR Try.func37 rfl (Nat.le_of_ble_eq_true rfl) ?_
 refine Ok.seq ?_
 refine Ok.region (σ':=⟨[(2,(.bref 2 0)),(3,(.bref 3 0))],[(2,(bxN a0)),(3,(.box .ex (c_api_Step a1)))]⟩) ?_ ?_
 ·refine OpsOk.cut1 0 (.agg (c_api_Node a0)) (DLe.of_eq (congrArg D.agg (e_api_Node_c _).symm)) ?_
  refine .rn 4 ?_
  exact .dn
 refine Ok.seq ?_
 obtain⟨t1,h2,H⟩:=bindE H
 refine Ok.region (σ':=⟨[(2,(.bref 2 0)),(3,(.bref 3 0)),(6,(L 1 (eI .i64) t1))],[(2,(bxN a0)),(3,(.box .ex (c_api_Step a1)))]⟩) ?_ ?_
 ·refine .cv (VOk.to (d':=(.agg (e_api_Node a0))) (.loadBAgg rfl Try.underlying27 rfl sz27 rfl rfl rfl) (congrArg D.agg (e_api_Node_c a0).symm)) rfl rfl ?_
  refine .rn 1 ?_
  refine .cg (GOk.call rfl rfl cl58 rfl (change_siblings.ok h2) rfl) rfl rfl ?_
  refine .rn 1 ?_
  exact .dn
 refine Ok.seq ?_
 refine Ok.region (σ':=⟨[(3,(.bref 3 0)),(6,(L 1 (eI .i64) t1)),(7,(.v (.int .i64 (a0.Kids.length:Int))))],[(3,(.box .ex (c_api_Step a1)))]⟩) ?_ ?_
 ·refine .rn 2 ?_
  refine .cv (VOk.lenL (e:=e_api_Node) (xs:=a0.Kids) rfl Try.underlying25 rfl) rfl rfl ?_
  refine .rn 1 ?_
  exact .dn
 refine Ok.meet (fun σ => ∃ (x7_3:Int),σ=⟨[(3,(.bref 3 0)),(6,(L 1 (eI .i64) t1)),(7,(.v (.int .i64 x7_3)))],[(3,(.box .ex (c_api_Step a1)))]⟩ ∧ change_place.j0 a1 t1 x7_3=some r) ?_ ?_
 ·refine Ok.seq ?_
  refine Ok.region (σ':=⟨[(3,(.bref 3 0)),(6,(L 1 (eI .i64) t1)),(7,(.v (.int .i64 (a0.Kids.length:Int)))),(16,(.v (.bool (decide ((t1.length:Int) > 0)))))],[(3,(.box .ex (c_api_Step a1)))]⟩) ?_ ?_
  ·refine .rn 1 ?_
   refine .cv (VOk.lenL (e:=(eI .i64)) (xs:=t1) rfl Try.underlying34 rfl) rfl rfl ?_
   refine .rn 1 ?_
   exact .dn
  refine Ok.test (b:=(decide ((t1.length:Int) > 0))) rfl (fun hb12 => ?_) (fun hb12 => ?_)
  ·replace H:=ifT H hb12
   obtain⟨c11,H⟩:=assertE H
   refine Ok.region (σ':=⟨[(3,(.bref 3 0)),(6,(L 1 (eI .i64) t1)),(7,(.v (.int .i64 (IntKind.i64.wrap ((rd t1 (IntKind.i64.wrap ((t1.length:Int) - 1))) + 1)))))],[(3,(.box .ex (c_api_Step a1)))]⟩) ?_ ?_
   ·refine .rn 2 ?_
    refine .cv (VOk.lenL (e:=(eI .i64)) (xs:=t1) rfl Try.underlying34 rfl) rfl rfl ?_
    refine .rn 1 ?_
    refine .cv (VOk.indexL (sz:=1) (e:=(eI .i64)) (xs:=t1) (i:=(IntKind.i64.wrap ((t1.length:Int) - 1))) rfl Try.underlying34 sz3 rfl rfl c11) rfl rfl ?_
    refine .rn 3 ?_
    exact .dn
   exact⟨(IntKind.i64.wrap ((rd t1 (IntKind.i64.wrap ((t1.length:Int) - 1))) + 1)),rfl,H⟩
  ·replace H:=ifF H hb12
   refine Ok.le (σ':=⟨[(3,(.bref 3 0)),(6,(L 1 (eI .i64) t1)),(7,(.v (.int .i64 (a0.Kids.length:Int))))],[(3,(.box .ex (c_api_Step a1)))]⟩) (.rf rfl rfl) ?_
   refine Ok.skip ?_
   exact⟨(a0.Kids.length:Int),rfl,H⟩
 ·rintro σ ⟨x7_3,rfl,H⟩
  unfold change_place.j0 at H
  refine Ok.seq ?_
  refine Ok.block ?_
  refine Ok.seq ?_
  refine Ok.region (σ':=⟨[(3,(.bref 3 0)),(6,(L 1 (eI .i64) t1)),(7,(.v (.int .i64 x7_3))),(24,(.v (.bool ((a1.Pos == 0) || (a1.Pos == (IntKind.i64.wrap ((t1.length:Int) + 1)))))))],[(3,(.box .ex (c_api_Step a1)))]⟩) ?_ ?_
  ·refine .rn 4 ?_
   refine OpsOk.consI rfl rfl rfl (.one rfl) rfl (fun hw4 => (VOk.g (VOk.to (VOk.fieldB rfl Try.underlying45 rfl sz3 rfl rfl) rfl))) ?_
   refine OpsOk.consI rfl rfl rfl (.one rfl) rfl (fun hw4 => (GOk.fr (fr':=[(29,(.bref 3 4))]) ⟨DLe.of_eq (cT hw4).symm,trivial⟩ (VOk.g (VOk.loadB (d:=(.v (.int .i64 a1.Pos))) rfl Try.underlying3 rfl rfl rfl rfl)))) ?_
   refine OpsOk.consI rfl rfl rfl (.one rfl) rfl (fun hw4 => (VOk.g (VOk.mv (d:=(L 1 (eI .i64) t1)) rfl rfl))) ?_
   refine OpsOk.consI rfl rfl rfl (.one rfl) rfl (fun hw4 => (GOk.fr (fr':=[(31,(L 1 (eI .i64) t1))]) ⟨DLe.of_eq (cT hw4).symm,trivial⟩ (VOk.g (VOk.lenL (e:=(eI .i64)) (xs:=t1) rfl Try.underlying34 rfl)))) ?_
   refine OpsOk.consI rfl rfl rfl (.one rfl) rfl (fun hw4 => (GOk.fr (fr':=[(32,(.v (.int .i64 (t1.length:Int))))]) ⟨DLe.of_eq (cT hw4).symm,trivial⟩ (VOk.g (VOk.arith (op:=.add) (k:=.i64) (a:=(t1.length:Int)) (b:=1) rfl rfl rfl rfl)))) ?_
   refine OpsOk.consI rfl rfl rfl (.one rfl) rfl (fun hw4 => (GOk.fr (fr':=[(30,(.v (.int .i64 a1.Pos))),(33,(.v (.int .i64 (IntKind.i64.wrap ((t1.length:Int) + 1)))))]) ⟨DLe.of_eq (cT hw4).symm,DLe.of_eq (cT hw4).symm,trivial⟩ (VOk.g (VOk.arith (op:=.eql) (k:=.i64) (a:=a1.Pos) (b:=(IntKind.i64.wrap ((t1.length:Int) + 1))) rfl rfl rfl rfl)))) ?_
   refine .cv (VOk.to (VOk.pickI (b:=(a1.Pos == 0)) (p:=true) (q:=(a1.Pos == (IntKind.i64.wrap ((t1.length:Int) + 1)))) rfl rfl (fun hp5 => rfl) (fun hp5 => (cT (f_beq hp5)))) (pickOr (a1.Pos == 0) (a1.Pos == (IntKind.i64.wrap ((t1.length:Int) + 1))))) rfl rfl ?_
   refine .rn 1 ?_
   exact .dn
  refine Ok.test (b:=((a1.Pos == 0) || (a1.Pos == (IntKind.i64.wrap ((t1.length:Int) + 1))))) rfl (fun hb10 => ?_) (fun hb10 => ?_)
  ·replace H:=ifT H hb10
   refine Ok.seq ?_
   refine .rg [(4,(.v (.int .i64 x7_3))),(5,(.v (.bool true)))] [] ?_
   refine Ok.ret ?_
   obtain rfl:=Option.some.inj H
   exact⟨.inl rfl,⟨_,(.cons (.tmp rfl) (.cons (.tmp rfl) .nil)),rfl⟩,trivial⟩
  ·replace H:=ifF H hb10
   refine Ok.seq ?_
   refine Ok.region (σ':=⟨[(3,(.bref 3 0)),(6,(L 1 (eI .i64) t1)),(37,(.v (.bool ((decide (a1.Pos > 0)) && (decide (a1.Pos ≤ (t1.length:Int)))))))],[(3,(.box .ex (c_api_Step a1)))]⟩) ?_ ?_
   ·refine .rn 4 ?_
    refine OpsOk.consI rfl rfl rfl (.one rfl) rfl (fun hw6 => (VOk.g (VOk.to (VOk.fieldB rfl Try.underlying45 rfl sz3 rfl rfl) rfl))) ?_
    refine OpsOk.consI rfl rfl rfl (.one rfl) rfl (fun hw6 => (GOk.fr (fr':=[(42,(.bref 3 4))]) ⟨DLe.of_eq (cT hw6).symm,trivial⟩ (VOk.g (VOk.loadB (d:=(.v (.int .i64 a1.Pos))) rfl Try.underlying3 rfl rfl rfl rfl)))) ?_
    refine OpsOk.consI rfl rfl rfl (.one rfl) rfl (fun hw6 => (VOk.g (VOk.mv (d:=(L 1 (eI .i64) t1)) rfl rfl))) ?_
    refine OpsOk.consI rfl rfl rfl (.one rfl) rfl (fun hw6 => (GOk.fr (fr':=[(44,(L 1 (eI .i64) t1))]) ⟨DLe.of_eq (cT hw6).symm,trivial⟩ (VOk.g (VOk.lenL (e:=(eI .i64)) (xs:=t1) rfl Try.underlying34 rfl)))) ?_
    refine OpsOk.consI rfl rfl rfl (.one rfl) rfl (fun hw6 => (GOk.fr (fr':=[(43,(.v (.int .i64 a1.Pos))),(45,(.v (.int .i64 (t1.length:Int))))]) ⟨DLe.of_eq (cT hw6).symm,DLe.of_eq (cT hw6).symm,trivial⟩ (VOk.g (VOk.arith (op:=.leq) (k:=.i64) (a:=a1.Pos) (b:=(t1.length:Int)) rfl rfl rfl rfl)))) ?_
    refine .cv (VOk.to (VOk.pickI (b:=(decide (a1.Pos > 0))) (p:=(decide (a1.Pos ≤ (t1.length:Int)))) (q:=false) rfl rfl (fun hp7 => (cT (t_beq hp7))) (fun hp7 => rfl)) (pickAnd (decide (a1.Pos > 0)) (decide (a1.Pos ≤ (t1.length:Int))))) rfl rfl ?_
    refine .rn 1 ?_
    exact .dn
   refine Ok.test (b:=((decide (a1.Pos > 0)) && (decide (a1.Pos ≤ (t1.length:Int))))) rfl (fun hb9 => ?_) (fun hb9 => ?_)
   ·replace H:=ifT H hb9
    refine Ok.seq ?_
    obtain⟨c8,H⟩:=assertE H
    refine Ok.region (σ':=⟨[(4,(.v (.int .i64 (rd t1 (IntKind.i64.wrap (a1.Pos - 1)))))),(5,(.v (.bool true)))],[]⟩) ?_ ?_
    ·refine .rn 4 ?_
     refine .cv (VOk.indexL (sz:=1) (e:=(eI .i64)) (xs:=t1) (i:=(IntKind.i64.wrap (a1.Pos - 1))) rfl Try.underlying34 sz3 rfl rfl c8) rfl rfl ?_
     refine .rn 3 ?_
     exact .dn
    refine Ok.ret ?_
    obtain rfl:=Option.some.inj H
    exact⟨.inl rfl,⟨_,(.cons (.tmp rfl) (.cons (.tmp rfl) .nil)),rfl⟩,trivial⟩
   ·replace H:=ifF H hb9
    refine Ok.skip ?_
    refine Ok.seq ?_
    refine .rg [(4,(.v (.int .i64 0))),(5,(.v (.bool false)))] [] ?_
    refine Ok.ret ?_
    obtain rfl:=Option.some.inj H
    exact⟨.inl rfl,⟨_,(.cons (.tmp rfl) (.cons (.tmp rfl) .nil)),rfl⟩,trivial⟩
def slices_Clone_39_o (a0:List Int):Option (List Int):=(if (([]:List Int).length + a0.length) * 8 ≤ 140737488355328 then some (([]:List Int) ++ a0) else none)
theorem slices_Clone_39_o.ok {a0:List Int} {r:(List Int)} (H:slices_Clone_39_o a0=some r):Vx.Fn Try.prog 39 [(L 1 (eI .i64) a0)] [] (.sref 0) [(0,.rows true 3 1 (List.map (eI .i64) r))]:=by
 unfold slices_Clone_39_o at H
 refine Vx.Fn.of_okO (t:=2) Try.func39 rfl (Nat.le_of_ble_eq_true rfl) rfl ?_
 refine Ok.seq ?_
 refine Ok.region (σ':=⟨[(0,(L 1 (eI .i64) a0))],[]⟩) ?_ ?_
 ·refine OpsOk.cons rfl (.nilT 2 3 1 (.inl rfl) rfl rfl) ?_
  exact .dn
 refine Ok.seq ?_
 refine Ok.seq ?_
 refine Ok.regionB (X:=fun b => b=true→a0=[]) (σ':=fun nb1 =>⟨[(0,(L 1 (eI .i64) a0)),(4,(.v (.bool nb1)))],[]⟩) ?_ (fun nb1 hnb1 => ?_)
 ·refine OpsB.cons rfl (.v (VOk.mv (d:=(L 1 (eI .i64) a0)) rfl rfl) rfl) ?_
  exact .last rfl (BOk.eqNil (E:=(eI .i64)) (xs:=a0) rfl Try.underlying34 rfl) rfl (fun nb1 => (.rf rfl rfl))
 refine Ok.test (b:=nb1) rfl (fun hb3 => ?_) (fun hb3 => ?_)
 ·replace H:some ([]:List Int)=some r:=nilH (hnb1 hb3) H (fun h => by (try rw [h]); rfl)
  refine Ok.seq ?_
  refine Ok.region (σ':=⟨[(2,(.sref 2))],[(2,(.rows true 3 1 (([]:List Int).map (eI .i64))))]⟩) ?_ ?_
  ·refine OpsOk.cons rfl (.nilT 2 3 1 (.inl rfl) rfl rfl) ?_
   exact .dn
  refine Ok.ret ?_
  obtain rfl:=Option.some.inj H
  exact⟨.inl rfl,2,rfl,rfl⟩
 ·refine Ok.skip ?_
  refine Ok.seq ?_
  obtain⟨c2,H⟩:=assertE H
  refine Ok.region (σ':=⟨[(2,(.sref 5))],[(5,(.rows true 3 1 ((([]:List Int) ++ a0).map (eI .i64))))]⟩) ?_ ?_
  ·refine OpsOk.cons rfl (OpOk.litT 5 rfl rfl Try.underlying34 sz3 zs3 rfl (rows:=([]:List Int).map (eI .i64)) rfl rfl rfl rfl) ?_
   refine .rn 1 ?_
   refine OpsOk.cons rfl (OpOk.appendL (e:=(eI .i64)) (xs:=([]:List Int)) (ys:=a0) rfl Try.underlying34 elt3 rfl rfl rfl c2 rfl) ?_
   refine .rn 1 ?_
   exact .dn
  refine Ok.ret ?_
  obtain rfl:=Option.some.inj H
  exact⟨.inl rfl,5,rfl,rfl⟩
def slices_Equal_64.l0 (k:Nat) (a0:List Int) (a1:List Int):Nat→Int→Option Bool
 | 0,_ => none
 | m3 + 1,x13_1 => (if (decide (x13_1 < (a0.length:Int)))=true then (if (0:Int) ≤ x13_1 ∧ x13_1 < (a0.length:Int) then (if (0:Int) ≤ x13_1 ∧ x13_1 < (a1.length:Int) then (if ((rd a0 x13_1) != (rd a1 x13_1))=true then some false else slices_Equal_64.l0 k a0 a1 m3 (IntKind.i64.wrap (x13_1 + 1))) else none) else none) else some true)
def slices_Equal_64 (k:Nat) (a0:List Int) (a1:List Int):Option Bool:=(if ((a0.length:Int) != (a1.length:Int))=true then some false else slices_Equal_64.l0 k a0 a1 k 0)
theorem slices_Equal_64.ok {k:Nat} {a0:List Int} {a1:List Int} {r:Bool} (H:slices_Equal_64 k a0 a1=some r):Vx.Fn Try.prog 64 [(L 1 (eI .i64) a0),(L 1 (eI .i64) a1)] [] (.v (.bool r)) []:=by
 unfold slices_Equal_64 at H
 refine Vx.Fn.of_okR Try.func64 rfl (Nat.le_of_ble_eq_true rfl) ?_
 refine Ok.seq ?_
 refine .rg [(0,(L 1 (eI .i64) a0)),(1,(L 1 (eI .i64) a1))] [] ?_
 refine Ok.seq ?_
 refine Ok.seq ?_
 refine Ok.region (σ':=⟨[(0,(L 1 (eI .i64) a0)),(1,(L 1 (eI .i64) a1)),(10,(.v (.bool ((a0.length:Int) != (a1.length:Int)))))],[]⟩) ?_ ?_
 ·refine .rn 1 ?_
  refine .cv (VOk.lenL (e:=(eI .i64)) (xs:=a0) rfl Try.underlying34 rfl) rfl rfl ?_
  refine .rn 1 ?_
  refine .cv (VOk.lenL (e:=(eI .i64)) (xs:=a1) rfl Try.underlying34 rfl) rfl rfl ?_
  refine .rn 1 ?_
  exact .dn
 refine Ok.test (b:=((a0.length:Int) != (a1.length:Int))) rfl (fun hb8 => ?_) (fun hb8 => ?_)
 ·replace H:=ifT H hb8
  refine Ok.seq ?_
  refine .rg [(4,(.v (.bool false)))] [] ?_
  refine Ok.ret ?_
  obtain rfl:=Option.some.inj H
  exact⟨.inl rfl,⟨_,(.cons (.tmp rfl) .nil),rfl⟩,trivial⟩
 ·replace H:=ifF H hb8
  refine Ok.skip ?_
  refine Ok.seq ?_
  refine Ok.seq ?_
  refine Ok.region (σ':=⟨[(0,(L 1 (eI .i64) a0)),(1,(L 1 (eI .i64) a1)),(12,(.v (.int .i64 (a0.length:Int)))),(13,(.v (.int .i64 0)))],[]⟩) ?_ ?_
  ·refine .rn 1 ?_
   refine .cv (VOk.lenL (e:=(eI .i64)) (xs:=a0) rfl Try.underlying34 rfl) rfl rfl ?_
   refine .rn 1 ?_
   exact .dn
  refine Ok.block ?_
  refine Ok.loop (fun m3 σ => ∃ (x13_1:Int),σ=⟨[(0,(L 1 (eI .i64) a0)),(1,(L 1 (eI .i64) a1)),(12,(.v (.int .i64 (a0.length:Int)))),(13,(.v (.int .i64 x13_1)))],[]⟩ ∧ slices_Equal_64.l0 k a0 a1 m3 x13_1=some r) k ⟨0,rfl,H⟩ ?_
  rintro m3 σ ⟨x13_1,rfl,H⟩
  cases m3 with
  | zero => exact absurd H (by simp [slices_Equal_64.l0])
  | succ m3 =>
   unfold slices_Equal_64.l0 at H
   refine Ok.seq ?_
   refine .rg [(0,(L 1 (eI .i64) a0)),(1,(L 1 (eI .i64) a1)),(12,(.v (.int .i64 (a0.length:Int)))),(13,(.v (.int .i64 x13_1))),(14,(.v (.bool (decide (x13_1 < (a0.length:Int))))))] [] ?_
   refine Ok.seq ?_
   refine Ok.test (b:=(decide (x13_1 < (a0.length:Int)))) rfl (fun hb7 => ?_) (fun hb7 => ?_)
   ·replace H:=ifT H hb7
    refine Ok.skip ?_
    refine Ok.seq ?_
    refine Ok.block ?_
    refine Ok.seq ?_
    refine .rg [(0,(L 1 (eI .i64) a0)),(1,(L 1 (eI .i64) a1)),(5,(.v (.int .i64 x13_1))),(12,(.v (.int .i64 (a0.length:Int)))),(13,(.v (.int .i64 x13_1)))] [] ?_
    refine Ok.seq ?_
    obtain⟨c4,H⟩:=assertE H
    obtain⟨c5,H⟩:=assertE H
    refine .dA [(0,(L 1 (eI .i64) a0)),(1,(L 1 (eI .i64) a1)),(12,(.v (.int .i64 (a0.length:Int)))),(13,(.v (.int .i64 x13_1))),(24,(.v (.bool ((rd a0 x13_1) != (rd a1 x13_1)))))] [] [[],[],[0,1],[2],[],[],[4,5],[6],[3,7]] mixed ?_ ?_
    ·refine .tn 2 ?_
     refine .tc (VOk.g (VOk.indexL (sz:=1) (e:=(eI .i64)) (xs:=a0) (i:=x13_1) rfl Try.underlying34 sz3 rfl rfl c4)) ?_
     refine .tn 3 ?_
     refine .tc (VOk.g (VOk.indexL (sz:=1) (e:=(eI .i64)) (xs:=a1) (i:=x13_1) rfl Try.underlying34 sz3 rfl rfl c5)) ?_
     refine .tn 2 ?_
     exact .dn
    refine Ok.test (b:=((rd a0 x13_1) != (rd a1 x13_1))) rfl (fun hb6 => ?_) (fun hb6 => ?_)
    ·replace H:=ifT H hb6
     refine Ok.seq ?_
     refine .rg [(4,(.v (.bool false)))] [] ?_
     refine Ok.ret ?_
     obtain rfl:=Option.some.inj H
     exact⟨.inl rfl,⟨_,(.cons (.tmp rfl) .nil),rfl⟩,trivial⟩
    ·replace H:=ifF H hb6
     refine Ok.skip ?_
     refine .rg [(0,(L 1 (eI .i64) a0)),(1,(L 1 (eI .i64) a1)),(12,(.v (.int .i64 (a0.length:Int)))),(13,(.v (.int .i64 (IntKind.i64.wrap (x13_1 + 1)))))] [] ?_
     exact⟨m3,Nat.lt_succ_self m3,(IntKind.i64.wrap (x13_1 + 1)),rfl,H⟩
   ·replace H:=ifF H hb7
    refine Ok.exit ?_
    refine Ok.seq ?_
    refine .rg [(4,(.v (.bool true)))] [] ?_
    refine Ok.ret ?_
    obtain rfl:=Option.some.inj H
    exact⟨.inl rfl,⟨_,(.cons (.tmp rfl) .nil),rfl⟩,trivial⟩
def change_selects (k:Nat) (a0:T_api_Node) (a1:List T_api_Step) (a2:List Int):Option Bool:=((match_Select k a0 a1).bind fun (t1:(List Int) × Int) => (((if ((t1.2 == 0) == true)=true then slices_Equal_64 k t1.1 a2 else some default)).bind fun (t4:Bool) => some ((t1.2 == 0) && t4)))
theorem change_selects.ok {k:Nat} {a0:T_api_Node} {a1:List T_api_Step} {a2:List Int} {r:Bool} (H:change_selects k a0 a1 a2=some r):Vx.Fn Try.prog 42 [(.agg (e_api_Node a0)),(L 9 e_api_Step a1),(L 1 (eI .i64) a2)] [] (.v (.bool r)) []:=by
 unfold change_selects at H
 refine Vx.Fn.of_okR Try.func42 rfl (Nat.le_of_ble_eq_true rfl) ?_
 refine Ok.seq ?_
 refine Ok.region (σ':=⟨[(1,(L 9 e_api_Step a1)),(2,(L 1 (eI .i64) a2)),(3,(.bref 3 0))],[(3,(bxN a0))]⟩) ?_ ?_
 ·refine OpsOk.cut1 0 (.agg (c_api_Node a0)) (DLe.of_eq (congrArg D.agg (e_api_Node_c _).symm)) ?_
  refine .rn 2 ?_
  exact .dn
 refine Ok.seq ?_
 obtain⟨t1,h2,H⟩:=bindE H
 refine Ok.region (σ':=⟨[(2,(L 1 (eI .i64) a2)),(7,(L 1 (eI .i64) t1.1)),(8,(.v (.int .i64 t1.2)))],[]⟩) ?_ ?_
 ·refine .cv (VOk.to (d':=(.agg (e_api_Node a0))) (.loadBAgg rfl Try.underlying27 rfl sz27 rfl rfl rfl) (congrArg D.agg (e_api_Node_c a0).symm)) rfl rfl ?_
  refine .rn 1 ?_
  refine .cg (GOk.call rfl rfl cl9 rfl (match_Select.ok h2) rfl) rfl rfl ?_
  refine .rn 5 ?_
  exact .dn
 refine Ok.seq ?_
 obtain⟨t4,h5,H⟩:=bindE H
 refine Ok.region (σ':=⟨[(6,(.v (.bool ((t1.2 == 0) && t4))))],[]⟩) ?_ ?_
 ·refine .rn 3 ?_
  refine OpsOk.consI rfl rfl rfl (.one rfl) rfl (fun hw3 => (VOk.g (VOk.mv (d:=(L 1 (eI .i64) t1.1)) rfl rfl))) ?_
  refine OpsOk.consI rfl rfl rfl (.one rfl) rfl (fun hw3 => (VOk.g (VOk.mv (d:=(L 1 (eI .i64) a2)) rfl rfl))) ?_
  refine OpsOk.consI rfl rfl rfl (.one rfl) rfl (fun hw3 => (GOk.fr (fr':=[(18,(L 1 (eI .i64) t1.1)),(19,(L 1 (eI .i64) a2))]) ⟨DLe.of_eq (cT hw3).symm,DLe.of_eq (cT hw3).symm,trivial⟩ (GOk.call rfl rfl cl64 rfl (slices_Equal_64.ok (ifT h5 hw3)) rfl))) ?_
  refine .cv (VOk.to (VOk.pickI (b:=(t1.2 == 0)) (p:=t4) (q:=false) rfl rfl (fun hp6 => (cT (t_beq hp6))) (fun hp6 => rfl)) (pickAnd (t1.2 == 0) t4)) rfl rfl ?_
  refine .rn 1 ?_
  exact .dn
 refine Ok.ret ?_
 obtain rfl:=Option.some.inj H
 exact⟨.inl rfl,⟨_,(.cons (.tmp rfl) .nil),rfl⟩,trivial⟩
end Go.Proofs.Ytafoiodfflcpeaa.Sh
