import Derived.Test.YtjhbedgepfkdbaaProg
import Derived.Test.YtjhbedgepfkdbaaVxSo
import Derived.Test.YtjhbedgepfkdbaaVxTa
import Derived.Test.YtjhbedgepfkdbaaVxAu
import Derived.Test.YtjhbedgepfkdbaaVxFl
namespace Go.Proofs.Ytjhbedgepfkdbaa.Sh
open Go Go.RowKit Go.Proofs.Vx
set_option linter.unusedVariables false
set_option maxRecDepth 100000
set_option maxHeartbeats 1000000
structure T_api_Name where
 Space:Str
 Local:Str
 deriving Inhabited
def e_api_Name (x:T_api_Name):List D:=[(S x.Space),(S x.Local)]
structure T_api_Attr where
 Name:T_api_Name
 Value:Str
 deriving Inhabited
def e_api_Attr (x:T_api_Attr):List D:=[(S x.Name.Space),(S x.Name.Local),(S x.Value)]
structure T_api_Node where
 Kind:Int
 Name:T_api_Name
 Attrs:List T_api_Attr
 Kids:List T_api_Node
 Text:Str
 deriving Inhabited
mutual
def r_api_Node:T_api_Node→List D
 | .mk x0 x1 x2 x3 x4 => [(.v (.int .i64 x0)),(S x1.Space),(S x1.Local),(L 3 e_api_Attr x2),(.list 6 (r_api_NodeL x3)),(S x4)]
def r_api_NodeL:List T_api_Node→List (List D)
 | [] => []
 | x :: xs => r_api_Node x :: r_api_NodeL xs
end
theorem r_api_NodeL_eq:∀ xs,r_api_NodeL xs=xs.map r_api_Node
 | [] => rfl
 | x :: xs => by rw [r_api_NodeL,r_api_NodeL_eq xs]; rfl
def e_api_Node (x:T_api_Node):List D:=[(.v (.int .i64 x.Kind)),(S x.Name.Space),(S x.Name.Local),(L 3 e_api_Attr x.Attrs),(L 6 r_api_Node x.Kids),(S x.Text)]
theorem r_api_Node_eq:r_api_Node=e_api_Node:=funext fun x => by cases x; rw [r_api_Node]; simp only [r_api_NodeL_eq]; rfl
theorem e_api_Node_c (x:T_api_Node):e_api_Node x=[(.v (.int .i64 x.Kind)),(S x.Name.Space),(S x.Name.Local),(L 3 e_api_Attr x.Attrs),(L 6 e_api_Node x.Kids),(S x.Text)]:=by show [(.v (.int .i64 x.Kind)),(S x.Name.Space),(S x.Name.Local),(L 3 e_api_Attr x.Attrs),(L 6 r_api_Node x.Kids),(S x.Text)]=_; simp only [r_api_Node_eq]
structure T_utf_span where
 From_:Int
 To_:Int
 deriving Inhabited
def e_utf_span (x:T_utf_span):List D:=[(.v (.int .i32 x.From_)),(.v (.int .i32 x.To_))]
def c_api_Attr (x:T_api_Attr):List D:=[(S x.Name.Space),(S x.Name.Local),(S x.Value)]
def c_api_Node (x:T_api_Node):List D:=[(.v (.int .i64 x.Kind)),(S x.Name.Space),(S x.Name.Local),(L 3 e_api_Attr x.Attrs),(L 6 e_api_Node x.Kids),(S x.Text)]
abbrev S0:D:=S ([]:Str)
abbrev z0N:List D:=[(.v (.int .i64 0)),(S ([]:Str)),(S ([]:Str)),(L 3 e_api_Attr ([]:List T_api_Attr)),(L 6 e_api_Node ([]:List T_api_Node)),(S ([]:Str))]
abbrev bx0:Ob:=.box .ex z0N
abbrev bxN (x:T_api_Node):Ob:=.box .ex (c_api_Node x)
abbrev c1N (x:T_api_Node):List D:=[(.v (.int .i64 x.Kind)),(S x.Name.Space),(S x.Name.Local),(L 3 e_api_Attr x.Attrs),(.sref 1024),(S x.Text)]
instance:Glo:=⟨fun _ => True,fun _ => False,fun _ _ _ h => h⟩
theorem mixed:Try.prog.follows .mixedOrders=true:=by kernel_rfl
theorem sz3:szOf Try.prog 3=some 1:=by kernel_rfl
theorem sz9:szOf Try.prog 9=some 1:=by kernel_rfl
theorem sz23:szOf Try.prog 23=some 2:=by kernel_rfl
theorem sz24:szOf Try.prog 24=some 1:=by kernel_rfl
theorem sz25:szOf Try.prog 25=some 1:=by kernel_rfl
theorem fa27 {fs:Array Field} (h:Try.prog.underlying 27=some (.struct fs)):fieldsAt Try.prog fs [(0,1),(1,2),(3,1),(4,1),(5,1)]:=by rw [Try.underlying27] at h; cases h; unfold fieldsAt; kernel_rfl
theorem zo27:zeroOf Try.prog 27=some (.agg #[(.int .i64 0),(.string (ba [])),(.string (ba [])),(.slice none 0 0),(.slice none 0 0),(.string (ba []))]):=by kernel_rfl
theorem fa23 {fs:Array Field} (h:Try.prog.underlying 23=some (.struct fs)):fieldsAt Try.prog fs [(0,1),(1,1)]:=by rw [Try.underlying23] at h; cases h; unfold fieldsAt; kernel_rfl
theorem zo23:zeroOf Try.prog 23=some (.agg #[(.string (ba [])),(.string (ba []))]):=by kernel_rfl
theorem sz27:szOf Try.prog 27=some 6:=by kernel_rfl
theorem cl25:callable Try.prog 25=true:=by kernel_rfl
theorem zs27:(zeroOf Try.prog 27).map (fun z => z.cells.size)=some 6:=by kernel_rfl
theorem zs3:(zeroOf Try.prog 3).map (fun z => z.cells.size)=some 1:=by kernel_rfl
theorem cl21:callable Try.prog 21=true:=by kernel_rfl
theorem cl20:callable Try.prog 20=true:=by kernel_rfl
theorem cl27:callable Try.prog 27=true:=by kernel_rfl
theorem sz47:szOf Try.prog 47=some 3:=by kernel_rfl
theorem zs47:(zeroOf Try.prog 47).map (fun z => z.cells.size)=some 3:=by kernel_rfl
theorem by47:bytesOf Try.prog 47=some 48:=by kernel_rfl
theorem elt47:Elt Try.prog 47 3 48:=.mk' sz47 by47 zs47 rfl
theorem cl45:callable Try.prog 45=true:=by kernel_rfl
theorem by27:bytesOf Try.prog 27=some 104:=by kernel_rfl
theorem elt27:Elt Try.prog 27 6 104:=.mk' sz27 by27 zs27 rfl
theorem cl46:callable Try.prog 46=true:=by kernel_rfl
theorem cl28:callable Try.prog 28=true:=by kernel_rfl
theorem cl8:callable Try.prog 8=true:=by kernel_rfl
theorem sz28:szOf Try.prog 28=some 1:=by kernel_rfl
theorem zs28:(zeroOf Try.prog 28).map (fun z => z.cells.size)=some 1:=by kernel_rfl
theorem cl10:callable Try.prog 10=true:=by kernel_rfl
theorem by3:bytesOf Try.prog 3=some 8:=by kernel_rfl
theorem elt3:Elt Try.prog 3 1 8:=.mk' sz3 by3 zs3 rfl
theorem by28:bytesOf Try.prog 28=some 24:=by kernel_rfl
theorem elt28:Elt Try.prog 28 1 24:=.mk' sz28 by28 zs28 rfl
theorem cl6:callable Try.prog 6=true:=by kernel_rfl
theorem cl26:callable Try.prog 26=true:=by kernel_rfl
theorem cl7:callable Try.prog 7=true:=by kernel_rfl
theorem zo3:zeroOf Try.prog 3=some (.int .i64 0):=by kernel_rfl
theorem cl29:callable Try.prog 29=true:=by kernel_rfl
theorem cl62:callable Try.prog 62=true:=by kernel_rfl
theorem sz5:szOf Try.prog 5=some 1:=by kernel_rfl
theorem cl63:callable Try.prog 63=true:=by kernel_rfl
theorem cl64:callable Try.prog 64=true:=by kernel_rfl
theorem cl58:callable Try.prog 58=true:=by kernel_rfl
theorem sz21:szOf Try.prog 21=some 1:=by kernel_rfl
theorem fa94 {fs:Array Field} (h:Try.prog.underlying 94=some (.struct fs)):fieldsAt Try.prog fs [(0,1),(1,1)]:=by rw [Try.underlying94] at h; cases h; unfold fieldsAt; kernel_rfl
theorem zo94:zeroOf Try.prog 94=some (.agg #[(.int .i32 0),(.int .i32 0)]):=by kernel_rfl
theorem sz94:szOf Try.prog 94=some 2:=by kernel_rfl
theorem zs94:(zeroOf Try.prog 94).map (fun z => z.cells.size)=some 2:=by kernel_rfl
theorem cl65:callable Try.prog 65=true:=by kernel_rfl
theorem cl59:callable Try.prog 59=true:=by kernel_rfl
theorem cl47:callable Try.prog 47=true:=by kernel_rfl
theorem eqt9 (d:Nat):EqT Try.prog (d + 1) 9 [1]:=.str d 9 Try.underlying9
theorem ag9:(Try.prog.underlying 9).map aggB=some false:=by rw [Try.underlying9]; rfl
theorem eg9:Try.prog.eqGuardType Try.prog.depth 9=false:=by kernel_rfl
theorem eqt23 (d:Nat):EqT Try.prog (d + 2) 23 [1,1]:=by
 refine EqT.struct (d + 1) 23 _ [[1],[1]] Try.underlying23 (by kernel_rfl) rfl ?_ ?_
 ·intro i f ks hf hk
  match i,hf,hk with
  | 0,hf,hk => cases hf; cases hk; exact⟨by decide,rfl,sz9⟩
  | 1,hf,hk => cases hf; cases hk; exact⟨by decide,rfl,sz9⟩
  | i + 2,hf,hk => simp at hk
 ·intro i f ks hf hk
  match i,hf,hk with
  | 0,hf,hk => cases hf; cases hk; exact eqt9 (d + 0)
  | 1,hf,hk => cases hf; cases hk; exact eqt9 (d + 0)
  | i + 2,hf,hk => simp at hk
theorem ag23:(Try.prog.underlying 23).map aggB=some true:=by rw [Try.underlying23]; rfl
theorem eg23:Try.prog.eqGuardType Try.prog.depth 23=false:=by kernel_rfl
theorem cl66:callable Try.prog 66=true:=by kernel_rfl
theorem cl67:callable Try.prog 67=true:=by kernel_rfl
theorem cl60:callable Try.prog 60=true:=by kernel_rfl
theorem cl48:callable Try.prog 48=true:=by kernel_rfl
def keq23 (a b:T_api_Name):Bool:=(a.Space == b.Space && (a.Local == b.Local && true))
theorem kt23:KeyT Try.prog 23 (fun a => D.agg (e_api_Name a)) (fun a => [.string (ba a.Space),.string (ba a.Local)]) keq23 [1,1]:=KeyT.agg (eqt23 9998) ag23 (fun _ => rfl) (fun _ _ => rfl) (fun a x h => by simp at h; rcases h with rfl | rfl <;> rfl)
theorem zo47:zeroOf Try.prog 47=some (.agg #[(.string (ba [])),(.string (ba [])),(.string (ba []))]):=by kernel_rfl
theorem zo4:zeroOf Try.prog 4=some (.bool false):=by kernel_rfl
theorem cl49:callable Try.prog 49=true:=by kernel_rfl
theorem cl15:callable Try.prog 15=true:=by kernel_rfl
theorem cl16:callable Try.prog 16=true:=by kernel_rfl
theorem cl32:callable Try.prog 32=true:=by kernel_rfl
theorem cl17:callable Try.prog 17=true:=by kernel_rfl
theorem cl33:callable Try.prog 33=true:=by kernel_rfl
theorem cl18:callable Try.prog 18=true:=by kernel_rfl
theorem cl13:callable Try.prog 13=true:=by kernel_rfl
theorem eqt47 (d:Nat):EqT Try.prog (d + 3) 47 [1,1,1]:=by
 refine EqT.struct (d + 2) 47 _ [[1,1],[1]] Try.underlying47 (by kernel_rfl) rfl ?_ ?_
 ·intro i f ks hf hk
  match i,hf,hk with
  | 0,hf,hk => cases hf; cases hk; exact⟨by decide,rfl,sz23⟩
  | 1,hf,hk => cases hf; cases hk; exact⟨by decide,rfl,sz9⟩
  | i + 2,hf,hk => simp at hk
 ·intro i f ks hf hk
  match i,hf,hk with
  | 0,hf,hk => cases hf; cases hk; exact eqt23 (d + 0)
  | 1,hf,hk => cases hf; cases hk; exact eqt9 (d + 1)
  | i + 2,hf,hk => simp at hk
theorem ag47:(Try.prog.underlying 47).map aggB=some true:=by rw [Try.underlying47]; rfl
theorem eg47:Try.prog.eqGuardType Try.prog.depth 47=false:=by kernel_rfl
theorem cl34:callable Try.prog 34=true:=by kernel_rfl
theorem cl35:callable Try.prog 35=true:=by kernel_rfl
theorem cl19:callable Try.prog 19=true:=by kernel_rfl
theorem cl57:callable Try.prog 57=true:=by kernel_rfl
theorem cl56:callable Try.prog 56=true:=by kernel_rfl
def watchbilllaw06_one (a0:List T_api_Node):Option T_api_Node:=some (T_api_Node.mk 1 (T_api_Name.mk ((T_api_Name.mk ([]:Str) ([97]:Str)).Space) ((T_api_Name.mk ([]:Str) ([97]:Str)).Local)) ([]:List T_api_Attr) a0 ([]:Str))
theorem watchbilllaw06_one.ok {a0:List T_api_Node} {r:T_api_Node} (H:watchbilllaw06_one a0=some r):Vx.Fn Try.prog 25 [(L 6 e_api_Node a0)] [] (.agg (e_api_Node r)) []:=by
 unfold watchbilllaw06_one at H
 refine Vx.Fn.of_okR Try.func25 rfl (Nat.le_of_ble_eq_true rfl) ?_
 refine Ok.seq ?_
 refine .rg [(0,(L 6 e_api_Node a0)),(2,(.bref 2 0))] [(2,bx0)] ?_
 refine Ok.seq ?_
 refine Ok.region (σ':=⟨[(2,(.bref 2 0))],[(2,(.box .ex (c_api_Node (T_api_Node.mk 1 (T_api_Name.mk ((T_api_Name.mk ([]:Str) ([97]:Str)).Space) ((T_api_Name.mk ([]:Str) ([97]:Str)).Local)) ([]:List T_api_Attr) a0 ([]:Str)))))]⟩) ?_ ?_
 ·refine .cv (VOk.to (d':=(.agg (e_api_Name (T_api_Name.mk ([]:Str) ([97]:Str))))) (.build [none,none] [(0,1),(1,1)] rfl Try.underlying23 (fa23 Try.underlying23) zo23 rfl rfl) rfl) rfl rfl ?_
  refine .rn 1 ?_
  refine .cv (VOk.to (d':=(.agg (e_api_Node (T_api_Node.mk 1 (T_api_Name.mk ((T_api_Name.mk ([]:Str) ([97]:Str)).Space) ((T_api_Name.mk ([]:Str) ([97]:Str)).Local)) ([]:List T_api_Attr) a0 ([]:Str))))) (.build [none,none,none,some 3,some 6,none] [(0,1),(1,2),(3,1),(4,1),(5,1)] rfl Try.underlying27 (fa27 Try.underlying27) zo27 rfl rfl) (congrArg D.agg (e_api_Node_c (T_api_Node.mk 1 (T_api_Name.mk ((T_api_Name.mk ([]:Str) ([97]:Str)).Space) ((T_api_Name.mk ([]:Str) ([97]:Str)).Local)) ([]:List T_api_Attr) a0 ([]:Str))).symm)) rfl rfl ?_
  refine OpsOk.cut1 5 (.agg [(.v (.int .i64 ((T_api_Node.mk 1 (T_api_Name.mk ((T_api_Name.mk ([]:Str) ([97]:Str)).Space) ((T_api_Name.mk ([]:Str) ([97]:Str)).Local)) ([]:List T_api_Attr) a0 ([]:Str)).Kind))),(S ((T_api_Node.mk 1 (T_api_Name.mk ((T_api_Name.mk ([]:Str) ([97]:Str)).Space) ((T_api_Name.mk ([]:Str) ([97]:Str)).Local)) ([]:List T_api_Attr) a0 ([]:Str)).Name.Space)),(S ((T_api_Node.mk 1 (T_api_Name.mk ((T_api_Name.mk ([]:Str) ([97]:Str)).Space) ((T_api_Name.mk ([]:Str) ([97]:Str)).Local)) ([]:List T_api_Attr) a0 ([]:Str)).Name.Local)),(L 3 e_api_Attr ((T_api_Node.mk 1 (T_api_Name.mk ((T_api_Name.mk ([]:Str) ([97]:Str)).Space) ((T_api_Name.mk ([]:Str) ([97]:Str)).Local)) ([]:List T_api_Attr) a0 ([]:Str)).Attrs)),(L 6 e_api_Node ((T_api_Node.mk 1 (T_api_Name.mk ((T_api_Name.mk ([]:Str) ([97]:Str)).Space) ((T_api_Name.mk ([]:Str) ([97]:Str)).Local)) ([]:List T_api_Attr) a0 ([]:Str)).Kids)),(S ((T_api_Node.mk 1 (T_api_Name.mk ((T_api_Name.mk ([]:Str) ([97]:Str)).Space) ((T_api_Name.mk ([]:Str) ([97]:Str)).Local)) ([]:List T_api_Attr) a0 ([]:Str)).Text))]) (DLe.of_eq (congrArg D.agg (e_api_Node_c _).symm)) ?_
  refine .rn 1 ?_
  exact .dn
 refine Ok.ret ?_
 obtain rfl:=Option.some.inj H
 exact⟨.inl rfl,⟨_,(.cons (.cell (VOk.to (d':=(.agg (e_api_Node (T_api_Node.mk 1 (T_api_Name.mk ((T_api_Name.mk ([]:Str) ([97]:Str)).Space) ((T_api_Name.mk ([]:Str) ([97]:Str)).Local)) ([]:List T_api_Attr) a0 ([]:Str))))) (.loadBAgg rfl Try.underlying27 rfl sz27 rfl rfl rfl) (congrArg D.agg (e_api_Node_c (T_api_Node.mk 1 (T_api_Name.mk ((T_api_Name.mk ([]:Str) ([97]:Str)).Space) ((T_api_Name.mk ([]:Str) ([97]:Str)).Local)) ([]:List T_api_Attr) a0 ([]:Str))).symm))) .nil),rfl⟩,trivial⟩
def path_kid (a0:T_api_Node) (a1:Int):Option Bool:=some ((decide (a1 ≥ 0)) && (decide (a1 < (a0.Kids.length:Int))))
theorem path_kid.ok {a0:T_api_Node} {a1:Int} {r:Bool} (H:path_kid a0 a1=some r):Vx.Fn Try.prog 27 [(.agg (e_api_Node a0)),(.v (.int .i64 a1))] [] (.v (.bool r)) []:=by
 unfold path_kid at H
 refine Vx.Fn.of_okR Try.func27 rfl (Nat.le_of_ble_eq_true rfl) ?_
 refine Ok.seq ?_
 refine Ok.region (σ':=⟨[(1,(.v (.int .i64 a1))),(2,(.bref 2 0))],[(2,(bxN a0))]⟩) ?_ ?_
 ·refine OpsOk.cut1 0 (.agg (c_api_Node a0)) (DLe.of_eq (congrArg D.agg (e_api_Node_c _).symm)) ?_
  refine .rn 2 ?_
  exact .dn
 refine Ok.seq ?_
 refine Ok.region (σ':=⟨[(4,(.v (.bool ((decide (a1 ≥ 0)) && (decide (a1 < (a0.Kids.length:Int)))))))],[]⟩) ?_ ?_
 ·refine .rn 3 ?_
  refine OpsOk.consI rfl rfl rfl (.one rfl) rfl (fun hw1 => (VOk.g (VOk.mv (d:=(.v (.int .i64 a1))) rfl rfl))) ?_
  refine OpsOk.consI rfl rfl rfl (.one rfl) rfl (fun hw1 => (VOk.g (VOk.to (VOk.fieldB rfl Try.underlying27 rfl sz25 rfl rfl) rfl))) ?_
  refine OpsOk.consI rfl rfl rfl (.one rfl) rfl (fun hw1 => (GOk.fr (fr':=[(9,(.bref 2 4))]) ⟨DLe.of_eq (cT hw1).symm,trivial⟩ (VOk.g (VOk.loadB (d:=(L 6 e_api_Node a0.Kids)) rfl Try.underlying25 rfl rfl rfl rfl)))) ?_
  refine OpsOk.consI rfl rfl rfl (.one rfl) rfl (fun hw1 => (GOk.fr (fr':=[(10,(L 6 e_api_Node a0.Kids))]) ⟨DLe.of_eq (cT hw1).symm,trivial⟩ (VOk.g (VOk.lenL (e:=e_api_Node) (xs:=a0.Kids) rfl Try.underlying25 rfl)))) ?_
  refine OpsOk.consI rfl rfl rfl (.one rfl) rfl (fun hw1 => (GOk.fr (fr':=[(8,(.v (.int .i64 a1))),(11,(.v (.int .i64 (a0.Kids.length:Int))))]) ⟨DLe.of_eq (cT hw1).symm,DLe.of_eq (cT hw1).symm,trivial⟩ (VOk.g (VOk.arith (op:=.lss) (k:=.i64) (a:=a1) (b:=(a0.Kids.length:Int)) rfl rfl rfl rfl)))) ?_
  refine .cv (VOk.to (VOk.pickI (b:=(decide (a1 ≥ 0))) (p:=(decide (a1 < (a0.Kids.length:Int)))) (q:=false) rfl rfl (fun hp2 => (cT (t_beq hp2))) (fun hp2 => rfl)) (pickAnd (decide (a1 ≥ 0)) (decide (a1 < (a0.Kids.length:Int))))) rfl rfl ?_
  refine .rn 1 ?_
  exact .dn
 refine Ok.ret ?_
 obtain rfl:=Option.some.inj H
 exact⟨.inl rfl,⟨_,(.cons (.tmp rfl) .nil),rfl⟩,trivial⟩
def slices_Clone_45 (a0:List T_api_Attr):Option (List T_api_Attr):=(if (([]:List T_api_Attr).length + a0.length) * 48 ≤ 140737488355328 then some (([]:List T_api_Attr) ++ a0) else none)
theorem slices_Clone_45.ok {a0:List T_api_Attr} {r:(List T_api_Attr)} (H:slices_Clone_45 a0=some r):Vx.Fn Try.prog 45 [(L 3 e_api_Attr a0)] [] (L 3 e_api_Attr r) []:=by
 unfold slices_Clone_45 at H
 refine Vx.Fn.of_okR Try.func45 rfl (Nat.le_of_ble_eq_true rfl) ?_
 refine Ok.seq ?_
 refine .rg [(0,(L 3 e_api_Attr a0))] [] ?_
 refine Ok.seq ?_
 refine Ok.seq ?_
 refine Ok.regionB (X:=fun b => b=true→a0=[]) (σ':=fun nb1 =>⟨[(0,(L 3 e_api_Attr a0)),(4,(.v (.bool nb1)))],[]⟩) ?_ (fun nb1 hnb1 => ?_)
 ·refine OpsB.cons rfl (.v (VOk.mv (d:=(L 3 e_api_Attr a0)) rfl rfl) rfl) ?_
  exact .last rfl (BOk.eqNil (E:=e_api_Attr) (xs:=a0) rfl Try.underlying24 rfl) rfl (fun nb1 => (.rf rfl rfl))
 refine Ok.test (b:=nb1) rfl (fun hb3 => ?_) (fun hb3 => ?_)
 ·replace H:some ([]:List T_api_Attr)=some r:=nilH (hnb1 hb3) H (fun h => by (try rw [h]); rfl)
  refine Ok.seq ?_
  refine .rg [(2,(.v (.slice none 0 0)))] [] ?_
  refine Ok.le (σ':=⟨[(2,(L 3 e_api_Attr ([]:List T_api_Attr)))],[]⟩) (.mk ⟨.nil _,trivial⟩ trivial) ?_
  refine Ok.ret ?_
  obtain rfl:=Option.some.inj H
  exact⟨.inl rfl,⟨_,(.cons (.tmp rfl) .nil),rfl⟩,trivial⟩
 ·refine Ok.skip ?_
  refine Ok.seq ?_
  obtain⟨c2,H⟩:=assertE H
  refine Ok.region (σ':=⟨[(2,(L 3 e_api_Attr (([]:List T_api_Attr) ++ a0)))],[]⟩) ?_ ?_
  ·refine .cg (GOk.to (d':=(.clist 3 (List.map e_api_Attr ([]:List T_api_Attr)))) (GOk.litC rfl Try.underlying24 sz47 zs47 rfl rfl rfl rfl) rfl) rfl rfl ?_
   refine .rn 1 ?_
   refine .cg (GOk.appendC (e:=e_api_Attr) (xs:=([]:List T_api_Attr)) (ys:=a0) rfl Try.underlying24 elt47 (.same _) rfl c2) rfl rfl ?_
   refine .rn 1 ?_
   exact .dn
  refine Ok.ret ?_
  obtain rfl:=Option.some.inj H
  exact⟨.inl rfl,⟨_,(.cons (.tmp rfl) .nil),rfl⟩,trivial⟩
def slices_Clone_46_o (a0:List T_api_Node):Option (List T_api_Node):=(if (([]:List T_api_Node).length + a0.length) * 104 ≤ 140737488355328 then some (([]:List T_api_Node) ++ a0) else none)
theorem slices_Clone_46_o.ok {a0:List T_api_Node} {r:(List T_api_Node)} (H:slices_Clone_46_o a0=some r):Vx.Fn Try.prog 46 [(L 6 e_api_Node a0)] [] (.sref 0) [(0,.rows true 27 6 (List.map e_api_Node r))]:=by
 unfold slices_Clone_46_o at H
 refine Vx.Fn.of_okO (t:=2) Try.func46 rfl (Nat.le_of_ble_eq_true rfl) rfl ?_
 refine Ok.seq ?_
 refine Ok.region (σ':=⟨[(0,(L 6 e_api_Node a0))],[]⟩) ?_ ?_
 ·refine OpsOk.cons rfl (.nilT 2 27 6 (.inl rfl) rfl rfl) ?_
  exact .dn
 refine Ok.seq ?_
 refine Ok.seq ?_
 refine Ok.regionB (X:=fun b => b=true→a0=[]) (σ':=fun nb1 =>⟨[(0,(L 6 e_api_Node a0)),(4,(.v (.bool nb1)))],[]⟩) ?_ (fun nb1 hnb1 => ?_)
 ·refine OpsB.cons rfl (.v (VOk.mv (d:=(L 6 e_api_Node a0)) rfl rfl) rfl) ?_
  exact .last rfl (BOk.eqNil (E:=e_api_Node) (xs:=a0) rfl Try.underlying25 rfl) rfl (fun nb1 => (.rf rfl rfl))
 refine Ok.test (b:=nb1) rfl (fun hb3 => ?_) (fun hb3 => ?_)
 ·replace H:some ([]:List T_api_Node)=some r:=nilH (hnb1 hb3) H (fun h => by (try rw [h]); rfl)
  refine Ok.seq ?_
  refine Ok.region (σ':=⟨[(2,(.sref 2))],[(2,(.rows true 27 6 (([]:List T_api_Node).map e_api_Node)))]⟩) ?_ ?_
  ·refine OpsOk.cons rfl (.nilT 2 27 6 (.inl rfl) rfl rfl) ?_
   exact .dn
  refine Ok.ret ?_
  obtain rfl:=Option.some.inj H
  exact⟨.inl rfl,2,rfl,rfl⟩
 ·refine Ok.skip ?_
  refine Ok.seq ?_
  obtain⟨c2,H⟩:=assertE H
  refine Ok.region (σ':=⟨[(2,(.sref 5))],[(5,(.rows true 27 6 ((([]:List T_api_Node) ++ a0).map e_api_Node)))]⟩) ?_ ?_
  ·refine OpsOk.cons rfl (OpOk.litT 5 rfl rfl Try.underlying25 sz27 zs27 rfl (rows:=([]:List T_api_Node).map e_api_Node) rfl rfl rfl rfl) ?_
   refine .rn 1 ?_
   refine OpsOk.cons rfl (OpOk.appendL (e:=e_api_Node) (xs:=([]:List T_api_Node)) (ys:=a0) rfl Try.underlying25 elt27 rfl rfl rfl c2 rfl) ?_
   refine .rn 1 ?_
   exact .dn
  refine Ok.ret ?_
  obtain rfl:=Option.some.inj H
  exact⟨.inl rfl,5,rfl,rfl⟩
def tree_Copy.l0 (k:Nat) (self:T_api_Node→Option T_api_Node) (t3:List T_api_Node):Nat→Int→Str→Str→List T_api_Attr→Str→Int→Str→Str→List T_api_Attr→List T_api_Node→Str→List T_api_Node→Int→Option T_api_Node
 | 0,_,_,_,_,_,_,_,_,_,_,_,_,_ => none
 | m31 + 1,y1_0_6,y1_1_7,y1_2_8,y1_3_9,y1_5_10,y2_0_11,y2_1_12,y2_2_13,y2_3_14,y2_4_15,y2_5_16,y1024_17,x16_5 => (if (decide (x16_5 < (t3.length:Int)))=true then (if (0:Int) ≤ x16_5 ∧ x16_5 < (y1024_17.length:Int) then ((self (rd y1024_17 x16_5)).bind fun (t33:T_api_Node) => (if (0:Int) ≤ x16_5 ∧ x16_5 < (y1024_17.length:Int) then tree_Copy.l0 k self t3 m31 y1_0_6 y1_1_7 y1_2_8 y1_3_9 y1_5_10 y2_0_11 y2_1_12 y2_2_13 y2_3_14 y2_4_15 y2_5_16 (y1024_17.set (Int.toNat x16_5) t33) (IntKind.i64.wrap (x16_5 + 1)) else none)) else none) else some (T_api_Node.mk y1_0_6 (T_api_Name.mk y1_1_7 y1_2_8) y1_3_9 y1024_17 y1_5_10))
def tree_Copy:Nat→T_api_Node→Option T_api_Node
 | 0,_ => none
 | k + 1,a0 => ((slices_Clone_45 a0.Attrs).bind fun (t1:(List T_api_Attr)) => ((slices_Clone_46_o a0.Kids).bind fun (t3:List T_api_Node) => tree_Copy.l0 k (tree_Copy k) t3 k a0.Kind a0.Name.Space a0.Name.Local t1 a0.Text 0 ([]:Str) ([]:Str) ([]:List T_api_Attr) ([]:List T_api_Node) ([]:Str) t3 0))
theorem tree_Copy.ok {k:Nat} {a0:T_api_Node} {r:T_api_Node} (H:tree_Copy k a0=some r):Vx.Fn Try.prog 28 [(.agg (e_api_Node a0))] [] (.agg (e_api_Node r)) []:=by
 induction k generalizing a0 r with
 | zero => exact absurd H (by simp [tree_Copy])
 | succ k ih =>
  unfold tree_Copy at H
  refine Vx.Fn.of_okR Try.func28 rfl (Nat.le_of_ble_eq_true rfl) ?_
  refine Ok.seq ?_
  refine Ok.region (σ':=⟨[(1,(.bref 1 0)),(2,(.bref 2 0))],[(1,(bxN a0)),(2,bx0)]⟩) ?_ ?_
  ·refine OpsOk.cut1 0 (.agg (c_api_Node a0)) (DLe.of_eq (congrArg D.agg (e_api_Node_c _).symm)) ?_
   refine .rn 2 ?_
   exact .dn
  refine Ok.seq ?_
  obtain⟨t1,h2,H⟩:=bindE H
  obtain⟨t3,h4,H⟩:=bindE H
  refine Ok.le (σ':=⟨[(1,(.bref 1 0)),(2,(.bref 2 0))],[(1,(bxN a0)),(2,bx0)]⟩) (.rf rfl rfl) ?_
  refine Ok.drawE2 (σ':=⟨[(1,(.bref 1 0)),(2,(.bref 2 0))],[(1,(.box .ex [(.v (.int .i64 a0.Kind)),(S a0.Name.Space),(S a0.Name.Local),(L 3 e_api_Attr t1),(.sref 1024),(S a0.Text)])),(2,bx0),(1024,(.rows true 27 6 (t3.map e_api_Node)))]⟩) [⟨true,[(1,(.bref 1 0))],[(1,(bxN a0))],(.bref 1 3),[],false,[]⟩,⟨true,[(5,(.bref 1 3))],[(1,(bxN a0))],(L 3 e_api_Attr a0.Attrs),[],false,[]⟩,⟨true,[(6,(L 3 e_api_Attr a0.Attrs))],[],(L 3 e_api_Attr t1),[],false,[]⟩,⟨true,[(1,(.bref 1 0))],[(1,(bxN a0))],(.bref 1 4),[],false,[]⟩,⟨true,[(8,(.bref 1 4))],[(1,(bxN a0))],(L 6 e_api_Node a0.Kids),[],false,[]⟩,⟨true,[(9,(L 6 e_api_Node a0.Kids))],[],(.sref 10),[(10,(.rows true 27 6 (t3.map e_api_Node)))],true,[]⟩,⟨true,[(1,(.bref 1 0))],[(1,(bxN a0))],(.bref 1 3),[],false,[]⟩,⟨true,[(11,(.bref 1 3)),(7,(L 3 e_api_Attr t1))],[(1,(bxN a0))],.junk,[(1,(.box .ex [(.v (.int .i64 a0.Kind)),(S a0.Name.Space),(S a0.Name.Local),(L 3 e_api_Attr t1),(L 6 e_api_Node a0.Kids),(S a0.Text)]))],false,[]⟩,⟨true,[(1,(.bref 1 0))],[(1,(.box .ex [(.v (.int .i64 a0.Kind)),(S a0.Name.Space),(S a0.Name.Local),(L 3 e_api_Attr t1),(L 6 e_api_Node a0.Kids),(S a0.Text)]))],(.bref 1 4),[],false,[]⟩,⟨true,[(12,(.bref 1 4)),(10,(.sref 10))],[(1,(.box .ex [(.v (.int .i64 a0.Kind)),(S a0.Name.Space),(S a0.Name.Local),(L 3 e_api_Attr t1),(L 6 e_api_Node a0.Kids),(S a0.Text)])),(10,(.rows true 27 6 (t3.map e_api_Node)))],.junk,[(1,(.box .ex [(.v (.int .i64 a0.Kind)),(S a0.Name.Space),(S a0.Name.Local),(L 3 e_api_Attr t1),(.sref 10),(S a0.Text)]))],false,[]⟩] [[],[0],[1],[],[3],[4],[],[0,1,2,3,4,6],[7],[0,1,3,4,5,6,7,8]] mixed (by kernel_rfl) ?_ ?_
  ·refine TxtE2.cons ⟨.same _,trivial⟩ ⟨rfl,trivial⟩ (It2.val rfl rfl (fun T hT => (VOk.g (VOk.to (VOk.fieldB rfl Try.underlying27 rfl sz24 rfl hT.1) rfl)))) ?_
   refine TxtE2.cons ⟨.same _,trivial⟩ ⟨rfl,trivial⟩ (It2.val rfl rfl (fun T hT => (VOk.g (VOk.loadB (d:=(L 3 e_api_Attr a0.Attrs)) rfl Try.underlying24 rfl rfl hT.1 rfl)))) ?_
   refine TxtE2.cons ⟨.same _,trivial⟩ trivial (It2.val rfl rfl (fun T hT => (GOk.call rfl rfl cl45 rfl (slices_Clone_45.ok h2) rfl))) ?_
   refine TxtE2.cons ⟨.same _,trivial⟩ ⟨rfl,trivial⟩ (It2.val rfl rfl (fun T hT => (VOk.g (VOk.to (VOk.fieldB rfl Try.underlying27 rfl sz25 rfl hT.1) rfl)))) ?_
   refine TxtE2.cons ⟨.same _,trivial⟩ ⟨rfl,trivial⟩ (It2.val rfl rfl (fun T hT => (VOk.g (VOk.loadB (d:=(L 6 e_api_Node a0.Kids)) rfl Try.underlying25 rfl rfl hT.1 rfl)))) ?_
   refine TxtE2.cons ⟨.same _,trivial⟩ trivial (It2.callO 10 (rows:=t3.map e_api_Node) rfl rfl rfl cl46 rfl (slices_Clone_46_o.ok h4) rfl) ?_
   refine TxtE2.cons ⟨.same _,trivial⟩ ⟨rfl,trivial⟩ (It2.val rfl rfl (fun T hT => (VOk.g (VOk.to (VOk.fieldB rfl Try.underlying27 rfl sz24 rfl hT.1) rfl)))) ?_
   refine TxtE2.cons ⟨.same _,.same _,trivial⟩ ⟨rfl,trivial⟩ (It2.store rfl rfl sz24 rfl rfl rfl rfl rfl rfl rfl rfl) ?_
   refine TxtE2.cons ⟨.same _,trivial⟩ ⟨rfl,trivial⟩ (It2.val rfl rfl (fun T hT => (VOk.g (VOk.to (VOk.fieldB rfl Try.underlying27 rfl sz25 rfl hT.1) rfl)))) ?_
   refine TxtE2.cons ⟨.same _,.same _,trivial⟩ ⟨rfl,rfl,trivial⟩ (It2.store rfl rfl sz25 rfl rfl rfl rfl rfl rfl rfl rfl) ?_
   exact .doneS (SLe.trans (Le.s (.rf rfl rfl)) (SLe.ren 10 1024 rfl rfl))
  refine Ok.seq ?_
  refine Ok.seq ?_
  refine Ok.region (σ':=⟨[(1,(.bref 1 0)),(2,(.bref 2 0)),(14,(.sref 1024)),(15,(.v (.int .i64 (t3.length:Int)))),(16,(.v (.int .i64 0)))],[(1,(.box .ex [(.v (.int .i64 a0.Kind)),(S a0.Name.Space),(S a0.Name.Local),(L 3 e_api_Attr t1),(.sref 1024),(S a0.Text)])),(2,bx0),(1024,(.rows true 27 6 (t3.map e_api_Node)))]⟩) ?_ ?_
  ·refine .rn 2 ?_
   refine .cv (VOk.lenTL (e:=e_api_Node) (xs:=t3) rfl Try.underlying25 rfl rfl) rfl rfl ?_
   refine .rn 1 ?_
   exact .dn
  refine Ok.block ?_
  refine Ok.loop (fun m31 σ => ∃ (y1_0_6:Int) (y1_1_7:Str) (y1_2_8:Str) (y1_3_9:List T_api_Attr) (y1_5_10:Str) (y2_0_11:Int) (y2_1_12:Str) (y2_2_13:Str) (y2_3_14:List T_api_Attr) (y2_4_15:List T_api_Node) (y2_5_16:Str) (y1024_17:List T_api_Node) (x16_5:Int),σ=⟨[(1,(.bref 1 0)),(2,(.bref 2 0)),(14,(.sref 1024)),(15,(.v (.int .i64 (t3.length:Int)))),(16,(.v (.int .i64 x16_5)))],[(1,(.box .ex [(.v (.int .i64 y1_0_6)),(S y1_1_7),(S y1_2_8),(L 3 e_api_Attr y1_3_9),(.sref 1024),(S y1_5_10)])),(2,(.box .ex [(.v (.int .i64 y2_0_11)),(S y2_1_12),(S y2_2_13),(L 3 e_api_Attr y2_3_14),(L 6 e_api_Node y2_4_15),(S y2_5_16)])),(1024,(.rows true 27 6 (y1024_17.map e_api_Node)))]⟩ ∧ tree_Copy.l0 k (tree_Copy k) t3 m31 y1_0_6 y1_1_7 y1_2_8 y1_3_9 y1_5_10 y2_0_11 y2_1_12 y2_2_13 y2_3_14 y2_4_15 y2_5_16 y1024_17 x16_5=some r) k ⟨a0.Kind,a0.Name.Space,a0.Name.Local,t1,a0.Text,0,([]:Str),([]:Str),([]:List T_api_Attr),([]:List T_api_Node),([]:Str),t3,0,rfl,H⟩ ?_
  rintro m31 σ ⟨y1_0_6,y1_1_7,y1_2_8,y1_3_9,y1_5_10,y2_0_11,y2_1_12,y2_2_13,y2_3_14,y2_4_15,y2_5_16,y1024_17,x16_5,rfl,H⟩
  cases m31 with
  | zero => exact absurd H (by simp [tree_Copy.l0])
  | succ m31 =>
   unfold tree_Copy.l0 at H
   refine Ok.seq ?_
   refine .rg [(1,(.bref 1 0)),(2,(.bref 2 0)),(14,(.sref 1024)),(15,(.v (.int .i64 (t3.length:Int)))),(16,(.v (.int .i64 x16_5))),(17,(.v (.bool (decide (x16_5 < (t3.length:Int))))))] [(1,(.box .ex [(.v (.int .i64 y1_0_6)),(S y1_1_7),(S y1_2_8),(L 3 e_api_Attr y1_3_9),(.sref 1024),(S y1_5_10)])),(2,(.box .ex [(.v (.int .i64 y2_0_11)),(S y2_1_12),(S y2_2_13),(L 3 e_api_Attr y2_3_14),(L 6 e_api_Node y2_4_15),(S y2_5_16)])),(1024,(.rows true 27 6 (y1024_17.map e_api_Node)))] ?_
   refine Ok.seq ?_
   refine Ok.test (b:=(decide (x16_5 < (t3.length:Int)))) rfl (fun hb36 => ?_) (fun hb36 => ?_)
   ·replace H:=ifT H hb36
    refine Ok.skip ?_
    refine Ok.seq ?_
    refine Ok.block ?_
    refine Ok.seq ?_
    obtain⟨c32,H⟩:=assertE H
    refine Ok.region (σ':=⟨[(1,(.bref 1 0)),(2,(.bref 2 0)),(3,(.v (.int .i64 x16_5))),(4,(.bref 4 0)),(14,(.sref 1024)),(15,(.v (.int .i64 (t3.length:Int)))),(16,(.v (.int .i64 x16_5)))],[(1,(.box .ex [(.v (.int .i64 y1_0_6)),(S y1_1_7),(S y1_2_8),(L 3 e_api_Attr y1_3_9),(.sref 1024),(S y1_5_10)])),(2,(.box .ex [(.v (.int .i64 y2_0_11)),(S y2_1_12),(S y2_2_13),(L 3 e_api_Attr y2_3_14),(L 6 e_api_Node y2_4_15),(S y2_5_16)])),(4,(.box .ex (c_api_Node (rd y1024_17 x16_5)))),(1024,(.rows true 27 6 (y1024_17.map e_api_Node)))]⟩) ?_ ?_
    ·refine .rn 1 ?_
     refine .cv (VOk.indexTL (e:=e_api_Node) (xs:=y1024_17) (i:=x16_5) rfl Try.underlying25 sz27 rfl rfl rfl c32) rfl rfl ?_
     refine .cv (VOk.to (d':=(.agg (e_api_Node (rd y1024_17 x16_5)))) (.loadEAgg rfl Try.underlying27 rfl sz27 rfl rfl (row_rd c32) rfl) rfl) rfl rfl ?_
     refine .rn 2 ?_
     refine OpsOk.cut1 20 (.agg [(.v (.int .i64 ((rd y1024_17 x16_5).Kind))),(S ((rd y1024_17 x16_5).Name.Space)),(S ((rd y1024_17 x16_5).Name.Local)),(L 3 e_api_Attr ((rd y1024_17 x16_5).Attrs)),(L 6 e_api_Node ((rd y1024_17 x16_5).Kids)),(S ((rd y1024_17 x16_5).Text))]) (DLe.of_eq (congrArg D.agg (e_api_Node_c _).symm)) ?_
     refine .rn 1 ?_
     exact .dn
    obtain⟨t33,h34,H⟩:=bindE H
    obtain⟨c35,H⟩:=assertE H
    refine Ok.le (σ':=⟨[(1,(.bref 1 0)),(2,(.bref 2 0)),(3,(.v (.int .i64 x16_5))),(4,(.bref 4 0)),(14,(.sref 1024)),(15,(.v (.int .i64 (t3.length:Int)))),(16,(.v (.int .i64 x16_5)))],[(1,(.box .ex [(.v (.int .i64 y1_0_6)),(S y1_1_7),(S y1_2_8),(L 3 e_api_Attr y1_3_9),(.sref 1024),(S y1_5_10)])),(2,(.box .ex [(.v (.int .i64 y2_0_11)),(S y2_1_12),(S y2_2_13),(L 3 e_api_Attr y2_3_14),(L 6 e_api_Node y2_4_15),(S y2_5_16)])),(4,(.box .ex (c_api_Node (rd y1024_17 x16_5)))),(1024,(.rows true 27 6 (y1024_17.map e_api_Node)))]⟩) (.rf rfl rfl) ?_
    refine .dU [(1,(.bref 1 0)),(2,(.bref 2 0)),(14,(.sref 1024)),(15,(.v (.int .i64 (t3.length:Int)))),(16,(.v (.int .i64 x16_5)))] [(1,(.box .ex [(.v (.int .i64 y1_0_6)),(S y1_1_7),(S y1_2_8),(L 3 e_api_Attr y1_3_9),(.sref 1024),(S y1_5_10)])),(2,(.box .ex [(.v (.int .i64 y2_0_11)),(S y2_1_12),(S y2_2_13),(L 3 e_api_Attr y2_3_14),(L 6 e_api_Node y2_4_15),(S y2_5_16)])),(1024,(.rows true 27 6 ((y1024_17.set (Int.toNat x16_5) t33).map e_api_Node)))] [[],[0],[],[],[3],[1,2],[4,5]] mixed ?_ ?_
    ·refine .un 3 ?_
     refine .uc ⟨true,[(4,(.bref 4 0))],[(4,(.box .ex (c_api_Node (rd y1024_17 x16_5))))],(.agg (e_api_Node (rd y1024_17 x16_5))),[],false,[]⟩ ⟨.same _,trivial⟩ ⟨rfl,trivial⟩ (It2.val rfl rfl (fun T hT => (VOk.g (VOk.to (d':=(.agg (e_api_Node (rd y1024_17 x16_5)))) (.loadBAgg rfl Try.underlying27 rfl sz27 rfl hT.1 rfl) (congrArg D.agg (e_api_Node_c (rd y1024_17 x16_5)).symm))))) ?_
     refine .uc ⟨true,[(24,(.agg (e_api_Node (rd y1024_17 x16_5))))],[],(.agg (e_api_Node t33)),[],false,[]⟩ ⟨.same _,trivial⟩ trivial (It2.val rfl rfl (fun T hT => (GOk.call rfl rfl cl28 rfl (@ih _ _ h34) rfl))) ?_
     refine .uc ⟨true,[(22,(.sref 1024)),(23,(.v (.int .i64 x16_5)))],[(1024,(.rows true 27 6 (y1024_17.map e_api_Node)))],(.eref 1024 (Int.toNat x16_5) 0),[],false,[]⟩ ⟨.same _,.same _,trivial⟩ ⟨rfl,trivial⟩ (It2.val rfl rfl (fun T hT => (VOk.g (VOk.indexTL (e:=e_api_Node) (xs:=y1024_17) (i:=x16_5) rfl Try.underlying25 sz27 rfl hT.1 rfl c35)))) ?_
     refine .uc ⟨true,[(26,(.eref 1024 (Int.toNat x16_5) 0)),(25,(.agg (e_api_Node t33)))],[(1024,(.rows true 27 6 (y1024_17.map e_api_Node)))],.junk,[(1024,(.rows true 27 6 ((y1024_17.set (Int.toNat x16_5) t33).map e_api_Node)))],false,[]⟩ ⟨.same _,.same _,trivial⟩ ⟨rfl,trivial⟩ (It2.storeEL (e:=e_api_Node) (xs:=y1024_17) (i:=x16_5) (y:=t33) rfl rfl sz27 rfl rfl rfl c35 rfl rfl rfl rfl rfl rfl) ?_
     exact .dn
    refine .rg [(1,(.bref 1 0)),(2,(.bref 2 0)),(14,(.sref 1024)),(15,(.v (.int .i64 (t3.length:Int)))),(16,(.v (.int .i64 (IntKind.i64.wrap (x16_5 + 1)))))] [(1,(.box .ex [(.v (.int .i64 y1_0_6)),(S y1_1_7),(S y1_2_8),(L 3 e_api_Attr y1_3_9),(.sref 1024),(S y1_5_10)])),(2,(.box .ex [(.v (.int .i64 y2_0_11)),(S y2_1_12),(S y2_2_13),(L 3 e_api_Attr y2_3_14),(L 6 e_api_Node y2_4_15),(S y2_5_16)])),(1024,(.rows true 27 6 ((y1024_17.set (Int.toNat x16_5) t33).map e_api_Node)))] ?_
    exact⟨m31,Nat.lt_succ_self m31,y1_0_6,y1_1_7,y1_2_8,y1_3_9,y1_5_10,y2_0_11,y2_1_12,y2_2_13,y2_3_14,y2_4_15,y2_5_16,(y1024_17.set (Int.toNat x16_5) t33),(IntKind.i64.wrap (x16_5 + 1)),rfl,H⟩
   ·replace H:=ifF H hb36
    refine Ok.exit ?_
    refine Ok.seq ?_
    refine Ok.region (σ':=⟨[(2,(.bref 2 0))],[(2,(.box .ex (c_api_Node (T_api_Node.mk y1_0_6 (T_api_Name.mk y1_1_7 y1_2_8) y1_3_9 y1024_17 y1_5_10))))]⟩) ?_ ?_
    ·refine OpsOk.frzL 1024 (e:=e_api_Node) (xs:=y1024_17) rfl ?_
     refine .cv (VOk.to (d':=(.agg (e_api_Node (T_api_Node.mk y1_0_6 (T_api_Name.mk y1_1_7 y1_2_8) y1_3_9 y1024_17 y1_5_10)))) (.loadBAgg rfl Try.underlying27 rfl sz27 rfl rfl rfl) (congrArg D.agg (e_api_Node_c (T_api_Node.mk y1_0_6 (T_api_Name.mk y1_1_7 y1_2_8) y1_3_9 y1024_17 y1_5_10)).symm)) rfl rfl ?_
     refine OpsOk.cut1 28 (.agg [(.v (.int .i64 ((T_api_Node.mk y1_0_6 (T_api_Name.mk y1_1_7 y1_2_8) y1_3_9 y1024_17 y1_5_10).Kind))),(S ((T_api_Node.mk y1_0_6 (T_api_Name.mk y1_1_7 y1_2_8) y1_3_9 y1024_17 y1_5_10).Name.Space)),(S ((T_api_Node.mk y1_0_6 (T_api_Name.mk y1_1_7 y1_2_8) y1_3_9 y1024_17 y1_5_10).Name.Local)),(L 3 e_api_Attr ((T_api_Node.mk y1_0_6 (T_api_Name.mk y1_1_7 y1_2_8) y1_3_9 y1024_17 y1_5_10).Attrs)),(L 6 e_api_Node ((T_api_Node.mk y1_0_6 (T_api_Name.mk y1_1_7 y1_2_8) y1_3_9 y1024_17 y1_5_10).Kids)),(S ((T_api_Node.mk y1_0_6 (T_api_Name.mk y1_1_7 y1_2_8) y1_3_9 y1024_17 y1_5_10).Text))]) (DLe.of_eq (congrArg D.agg (e_api_Node_c _).symm)) ?_
     refine .rn 1 ?_
     exact .dn
    refine Ok.ret ?_
    obtain rfl:=Option.some.inj H
    exact⟨.inl rfl,⟨_,(.cons (.cell (VOk.to (d':=(.agg (e_api_Node (T_api_Node.mk y1_0_6 (T_api_Name.mk y1_1_7 y1_2_8) y1_3_9 y1024_17 y1_5_10)))) (.loadBAgg rfl Try.underlying27 rfl sz27 rfl rfl rfl) (congrArg D.agg (e_api_Node_c (T_api_Node.mk y1_0_6 (T_api_Name.mk y1_1_7 y1_2_8) y1_3_9 y1024_17 y1_5_10)).symm))) .nil),rfl⟩,trivial⟩
def path_At.l0 (k:Nat) (a1:List Int):Nat→Int→Str→Str→List T_api_Attr→List T_api_Node→Str→Int→Str→Str→List T_api_Attr→List T_api_Node→Str→Int→Option (T_api_Node × Bool)
 | 0,_,_,_,_,_,_,_,_,_,_,_,_,_ => none
 | m27 + 1,y2_0_2,y2_1_3,y2_2_4,y2_3_5,y2_4_6,y2_5_7,y4_0_8,y4_1_9,y4_2_10,y4_3_11,y4_4_12,y4_5_13,x10_1 => (if (decide (x10_1 < (a1.length:Int)))=true then (if (0:Int) ≤ x10_1 ∧ x10_1 < (a1.length:Int) then ((path_kid (T_api_Node.mk y2_0_2 (T_api_Name.mk y2_1_3 y2_2_4) y2_3_5 y2_4_6 y2_5_7) (rd a1 x10_1)).bind fun (t29:Bool) => (if (!t29)=true then some ((T_api_Node.mk 0 (T_api_Name.mk ([]:Str) ([]:Str)) ([]:List T_api_Attr) ([]:List T_api_Node) ([]:Str)),false) else (if (0:Int) ≤ (rd a1 x10_1) ∧ (rd a1 x10_1) < (y2_4_6.length:Int) then path_At.l0 k a1 m27 ((rd y2_4_6 (rd a1 x10_1)).Kind) ((rd y2_4_6 (rd a1 x10_1)).Name.Space) ((rd y2_4_6 (rd a1 x10_1)).Name.Local) ((rd y2_4_6 (rd a1 x10_1)).Attrs) ((rd y2_4_6 (rd a1 x10_1)).Kids) ((rd y2_4_6 (rd a1 x10_1)).Text) y4_0_8 y4_1_9 y4_2_10 y4_3_11 y4_4_12 y4_5_13 (IntKind.i64.wrap (x10_1 + 1)) else none))) else none) else ((tree_Copy k (T_api_Node.mk y2_0_2 (T_api_Name.mk y2_1_3 y2_2_4) y2_3_5 y2_4_6 y2_5_7)).bind fun (t33:T_api_Node) => some (t33,true)))
def path_At (k:Nat) (a0:T_api_Node) (a1:List Int):Option (T_api_Node × Bool):=path_At.l0 k a1 k a0.Kind a0.Name.Space a0.Name.Local a0.Attrs a0.Kids a0.Text 0 ([]:Str) ([]:Str) ([]:List T_api_Attr) ([]:List T_api_Node) ([]:Str) 0
theorem path_At.ok {k:Nat} {a0:T_api_Node} {a1:List Int} {r:T_api_Node × Bool} (H:path_At k a0 a1=some r):Vx.Fn Try.prog 8 [(.agg (e_api_Node a0)),(L 1 (eI .i64) a1)] [] (.tup [(.agg (e_api_Node r.1)),(.v (.bool r.2))]) []:=by
 unfold path_At at H
 refine Vx.Fn.of_okR Try.func8 rfl (Nat.le_of_ble_eq_true rfl) ?_
 refine Ok.seq ?_
 refine Ok.region (σ':=⟨[(1,(L 1 (eI .i64) a1)),(2,(.bref 2 0)),(4,(.bref 4 0))],[(2,(bxN a0)),(4,bx0)]⟩) ?_ ?_
 ·refine OpsOk.cut1 0 (.agg (c_api_Node a0)) (DLe.of_eq (congrArg D.agg (e_api_Node_c _).symm)) ?_
  refine .rn 3 ?_
  exact .dn
 refine Ok.seq ?_
 refine Ok.seq ?_
 refine Ok.region (σ':=⟨[(2,(.bref 2 0)),(4,(.bref 4 0)),(8,(L 1 (eI .i64) a1)),(9,(.v (.int .i64 (a1.length:Int)))),(10,(.v (.int .i64 0)))],[(2,(bxN a0)),(4,bx0)]⟩) ?_ ?_
 ·refine .rn 1 ?_
  refine .cv (VOk.lenL (e:=(eI .i64)) (xs:=a1) rfl Try.underlying28 rfl) rfl rfl ?_
  refine .rn 1 ?_
  exact .dn
 refine Ok.block ?_
 refine Ok.loop (fun m27 σ => ∃ (y2_0_2:Int) (y2_1_3:Str) (y2_2_4:Str) (y2_3_5:List T_api_Attr) (y2_4_6:List T_api_Node) (y2_5_7:Str) (y4_0_8:Int) (y4_1_9:Str) (y4_2_10:Str) (y4_3_11:List T_api_Attr) (y4_4_12:List T_api_Node) (y4_5_13:Str) (x10_1:Int),σ=⟨[(2,(.bref 2 0)),(4,(.bref 4 0)),(8,(L 1 (eI .i64) a1)),(9,(.v (.int .i64 (a1.length:Int)))),(10,(.v (.int .i64 x10_1)))],[(2,(.box .ex [(.v (.int .i64 y2_0_2)),(S y2_1_3),(S y2_2_4),(L 3 e_api_Attr y2_3_5),(L 6 e_api_Node y2_4_6),(S y2_5_7)])),(4,(.box .ex [(.v (.int .i64 y4_0_8)),(S y4_1_9),(S y4_2_10),(L 3 e_api_Attr y4_3_11),(L 6 e_api_Node y4_4_12),(S y4_5_13)]))]⟩ ∧ path_At.l0 k a1 m27 y2_0_2 y2_1_3 y2_2_4 y2_3_5 y2_4_6 y2_5_7 y4_0_8 y4_1_9 y4_2_10 y4_3_11 y4_4_12 y4_5_13 x10_1=some r) k ⟨a0.Kind,a0.Name.Space,a0.Name.Local,a0.Attrs,a0.Kids,a0.Text,0,([]:Str),([]:Str),([]:List T_api_Attr),([]:List T_api_Node),([]:Str),0,rfl,H⟩ ?_
 rintro m27 σ ⟨y2_0_2,y2_1_3,y2_2_4,y2_3_5,y2_4_6,y2_5_7,y4_0_8,y4_1_9,y4_2_10,y4_3_11,y4_4_12,y4_5_13,x10_1,rfl,H⟩
 cases m27 with
 | zero => exact absurd H (by simp [path_At.l0])
 | succ m27 =>
  unfold path_At.l0 at H
  refine Ok.seq ?_
  refine .rg [(2,(.bref 2 0)),(4,(.bref 4 0)),(8,(L 1 (eI .i64) a1)),(9,(.v (.int .i64 (a1.length:Int)))),(10,(.v (.int .i64 x10_1))),(11,(.v (.bool (decide (x10_1 < (a1.length:Int))))))] [(2,(.box .ex [(.v (.int .i64 y2_0_2)),(S y2_1_3),(S y2_2_4),(L 3 e_api_Attr y2_3_5),(L 6 e_api_Node y2_4_6),(S y2_5_7)])),(4,(.box .ex [(.v (.int .i64 y4_0_8)),(S y4_1_9),(S y4_2_10),(L 3 e_api_Attr y4_3_11),(L 6 e_api_Node y4_4_12),(S y4_5_13)]))] ?_
  refine Ok.seq ?_
  refine Ok.test (b:=(decide (x10_1 < (a1.length:Int)))) rfl (fun hb35 => ?_) (fun hb35 => ?_)
  ·replace H:=ifT H hb35
   refine Ok.skip ?_
   refine Ok.seq ?_
   refine Ok.block ?_
   refine Ok.seq ?_
   obtain⟨c28,H⟩:=assertE H
   refine Ok.region (σ':=⟨[(2,(.bref 2 0)),(4,(.bref 4 0)),(7,(.v (.int .i64 (rd a1 x10_1)))),(8,(L 1 (eI .i64) a1)),(9,(.v (.int .i64 (a1.length:Int)))),(10,(.v (.int .i64 x10_1)))],[(2,(.box .ex [(.v (.int .i64 y2_0_2)),(S y2_1_3),(S y2_2_4),(L 3 e_api_Attr y2_3_5),(L 6 e_api_Node y2_4_6),(S y2_5_7)])),(4,(.box .ex [(.v (.int .i64 y4_0_8)),(S y4_1_9),(S y4_2_10),(L 3 e_api_Attr y4_3_11),(L 6 e_api_Node y4_4_12),(S y4_5_13)]))]⟩) ?_ ?_
   ·refine .cv (VOk.indexL (sz:=1) (e:=(eI .i64)) (xs:=a1) (i:=x10_1) rfl Try.underlying28 sz3 rfl rfl c28) rfl rfl ?_
    refine .rn 2 ?_
    exact .dn
   refine Ok.seq ?_
   refine Ok.seq ?_
   obtain⟨t29,h30,H⟩:=bindE H
   refine Ok.region (σ':=⟨[(2,(.bref 2 0)),(4,(.bref 4 0)),(7,(.v (.int .i64 (rd a1 x10_1)))),(8,(L 1 (eI .i64) a1)),(9,(.v (.int .i64 (a1.length:Int)))),(10,(.v (.int .i64 x10_1))),(17,(.v (.bool (!t29))))],[(2,(.box .ex [(.v (.int .i64 y2_0_2)),(S y2_1_3),(S y2_2_4),(L 3 e_api_Attr y2_3_5),(L 6 e_api_Node y2_4_6),(S y2_5_7)])),(4,(.box .ex [(.v (.int .i64 y4_0_8)),(S y4_1_9),(S y4_2_10),(L 3 e_api_Attr y4_3_11),(L 6 e_api_Node y4_4_12),(S y4_5_13)]))]⟩) ?_ ?_
   ·refine .cv (VOk.to (d':=(.agg (e_api_Node (T_api_Node.mk y2_0_2 (T_api_Name.mk y2_1_3 y2_2_4) y2_3_5 y2_4_6 y2_5_7)))) (.loadBAgg rfl Try.underlying27 rfl sz27 rfl rfl rfl) (congrArg D.agg (e_api_Node_c (T_api_Node.mk y2_0_2 (T_api_Name.mk y2_1_3 y2_2_4) y2_3_5 y2_4_6 y2_5_7)).symm)) rfl rfl ?_
    refine .rn 1 ?_
    refine .cg (GOk.call rfl rfl cl27 rfl (path_kid.ok h30) rfl) rfl rfl ?_
    refine .rn 1 ?_
    exact .dn
   refine Ok.test (b:=(!t29)) rfl (fun hb32 => ?_) (fun hb32 => ?_)
   ·replace H:=ifT H hb32
    refine Ok.seq ?_
    refine Ok.region (σ':=⟨[(4,(.bref 4 0)),(5,(.v (.bool false)))],[(4,(.box .ex (c_api_Node (T_api_Node.mk 0 (T_api_Name.mk ([]:Str) ([]:Str)) ([]:List T_api_Attr) ([]:List T_api_Node) ([]:Str)))))]⟩) ?_ ?_
    ·refine .cv (VOk.to (d':=(.agg (e_api_Node (T_api_Node.mk 0 (T_api_Name.mk ([]:Str) ([]:Str)) ([]:List T_api_Attr) ([]:List T_api_Node) ([]:Str))))) (.build [none,none,none,some 3,some 6,none] [(0,1),(1,2),(3,1),(4,1),(5,1)] rfl Try.underlying27 (fa27 Try.underlying27) zo27 rfl rfl) (congrArg D.agg (e_api_Node_c (T_api_Node.mk 0 (T_api_Name.mk ([]:Str) ([]:Str)) ([]:List T_api_Attr) ([]:List T_api_Node) ([]:Str))).symm)) rfl rfl ?_
     refine OpsOk.cut1 18 (.agg [(.v (.int .i64 ((T_api_Node.mk 0 (T_api_Name.mk ([]:Str) ([]:Str)) ([]:List T_api_Attr) ([]:List T_api_Node) ([]:Str)).Kind))),(S ((T_api_Node.mk 0 (T_api_Name.mk ([]:Str) ([]:Str)) ([]:List T_api_Attr) ([]:List T_api_Node) ([]:Str)).Name.Space)),(S ((T_api_Node.mk 0 (T_api_Name.mk ([]:Str) ([]:Str)) ([]:List T_api_Attr) ([]:List T_api_Node) ([]:Str)).Name.Local)),(L 3 e_api_Attr ((T_api_Node.mk 0 (T_api_Name.mk ([]:Str) ([]:Str)) ([]:List T_api_Attr) ([]:List T_api_Node) ([]:Str)).Attrs)),(L 6 e_api_Node ((T_api_Node.mk 0 (T_api_Name.mk ([]:Str) ([]:Str)) ([]:List T_api_Attr) ([]:List T_api_Node) ([]:Str)).Kids)),(S ((T_api_Node.mk 0 (T_api_Name.mk ([]:Str) ([]:Str)) ([]:List T_api_Attr) ([]:List T_api_Node) ([]:Str)).Text))]) (DLe.of_eq (congrArg D.agg (e_api_Node_c _).symm)) ?_
     refine .rn 2 ?_
     exact .dn
    refine Ok.ret ?_
    obtain rfl:=Option.some.inj H
    exact⟨.inl rfl,⟨_,(.cons (.cell (VOk.to (d':=(.agg (e_api_Node (T_api_Node.mk 0 (T_api_Name.mk ([]:Str) ([]:Str)) ([]:List T_api_Attr) ([]:List T_api_Node) ([]:Str))))) (.loadBAgg rfl Try.underlying27 rfl sz27 rfl rfl rfl) (congrArg D.agg (e_api_Node_c (T_api_Node.mk 0 (T_api_Name.mk ([]:Str) ([]:Str)) ([]:List T_api_Attr) ([]:List T_api_Node) ([]:Str))).symm))) (.cons (.tmp rfl) .nil)),rfl⟩,trivial⟩
   ·replace H:=ifF H hb32
    refine Ok.skip ?_
    obtain⟨c31,H⟩:=assertE H
    refine Ok.region (σ':=⟨[(2,(.bref 2 0)),(4,(.bref 4 0)),(8,(L 1 (eI .i64) a1)),(9,(.v (.int .i64 (a1.length:Int)))),(10,(.v (.int .i64 x10_1)))],[(2,(.box .ex (c_api_Node (rd y2_4_6 (rd a1 x10_1))))),(4,(.box .ex [(.v (.int .i64 y4_0_8)),(S y4_1_9),(S y4_2_10),(L 3 e_api_Attr y4_3_11),(L 6 e_api_Node y4_4_12),(S y4_5_13)]))]⟩) ?_ ?_
    ·refine .rn 3 ?_
     refine .cv (VOk.indexL (sz:=6) (e:=e_api_Node) (xs:=y2_4_6) (i:=(rd a1 x10_1)) rfl Try.underlying25 sz27 rfl rfl c31) rfl rfl ?_
     refine .rn 1 ?_
     refine OpsOk.cut1 23 (.agg [(.v (.int .i64 ((rd y2_4_6 (rd a1 x10_1)).Kind))),(S ((rd y2_4_6 (rd a1 x10_1)).Name.Space)),(S ((rd y2_4_6 (rd a1 x10_1)).Name.Local)),(L 3 e_api_Attr ((rd y2_4_6 (rd a1 x10_1)).Attrs)),(L 6 e_api_Node ((rd y2_4_6 (rd a1 x10_1)).Kids)),(S ((rd y2_4_6 (rd a1 x10_1)).Text))]) (DLe.of_eq (congrArg D.agg (e_api_Node_c _).symm)) ?_
     refine .rn 1 ?_
     exact .dn
    refine .rg [(2,(.bref 2 0)),(4,(.bref 4 0)),(8,(L 1 (eI .i64) a1)),(9,(.v (.int .i64 (a1.length:Int)))),(10,(.v (.int .i64 (IntKind.i64.wrap (x10_1 + 1)))))] [(2,(.box .ex (c_api_Node (rd y2_4_6 (rd a1 x10_1))))),(4,(.box .ex [(.v (.int .i64 y4_0_8)),(S y4_1_9),(S y4_2_10),(L 3 e_api_Attr y4_3_11),(L 6 e_api_Node y4_4_12),(S y4_5_13)]))] ?_
    exact⟨m27,Nat.lt_succ_self m27,((rd y2_4_6 (rd a1 x10_1)).Kind),((rd y2_4_6 (rd a1 x10_1)).Name.Space),((rd y2_4_6 (rd a1 x10_1)).Name.Local),((rd y2_4_6 (rd a1 x10_1)).Attrs),((rd y2_4_6 (rd a1 x10_1)).Kids),((rd y2_4_6 (rd a1 x10_1)).Text),y4_0_8,y4_1_9,y4_2_10,y4_3_11,y4_4_12,y4_5_13,(IntKind.i64.wrap (x10_1 + 1)),rfl,H⟩
  ·replace H:=ifF H hb35
   refine Ok.exit ?_
   refine Ok.seq ?_
   obtain⟨t33,h34,H⟩:=bindE H
   refine Ok.region (σ':=⟨[(4,(.bref 4 0)),(5,(.v (.bool true)))],[(4,(bxN t33))]⟩) ?_ ?_
   ·refine .cv (VOk.to (d':=(.agg (e_api_Node (T_api_Node.mk y2_0_2 (T_api_Name.mk y2_1_3 y2_2_4) y2_3_5 y2_4_6 y2_5_7)))) (.loadBAgg rfl Try.underlying27 rfl sz27 rfl rfl rfl) (congrArg D.agg (e_api_Node_c (T_api_Node.mk y2_0_2 (T_api_Name.mk y2_1_3 y2_2_4) y2_3_5 y2_4_6 y2_5_7)).symm)) rfl rfl ?_
    refine .cg (GOk.call rfl rfl cl28 rfl (tree_Copy.ok h34) rfl) rfl rfl ?_
    refine OpsOk.cut1 26 (.agg (c_api_Node t33)) (DLe.of_eq (congrArg D.agg (e_api_Node_c _).symm)) ?_
    refine .rn 2 ?_
    exact .dn
   refine Ok.ret ?_
   obtain rfl:=Option.some.inj H
   exact⟨.inl rfl,⟨_,(.cons (.cell (VOk.to (d':=(.agg (e_api_Node t33))) (.loadBAgg rfl Try.underlying27 rfl sz27 rfl rfl rfl) (congrArg D.agg (e_api_Node_c t33).symm))) (.cons (.tmp rfl) .nil)),rfl⟩,trivial⟩
def path_Places.l1 (k:Nat) (c0:List (List Int)→Int→Option (List (List Int))) (a0:T_api_Node) (x15_1:Int) (t7:(List (List Int))):Nat→List (List Int)→Int→Option (List (List Int))
 | 0,_,_ => none
 | m13 + 1,y11_10,x23_9 => (if (decide (x23_9 < (t7.length:Int)))=true then (if (0:Int) ≤ x23_9 ∧ x23_9 < (t7.length:Int) then (if (([x15_1]:List Int).length + (rd t7 x23_9).length) * 8 ≤ 140737488355328 then (if (y11_10.length + ([(([x15_1]:List Int) ++ (rd t7 x23_9))]:List (List Int)).length) * 24 ≤ 140737488355328 then path_Places.l1 k c0 a0 x15_1 t7 m13 (y11_10 ++ ([(([x15_1]:List Int) ++ (rd t7 x23_9))]:List (List Int))) (IntKind.i64.wrap (x23_9 + 1)) else none) else none) else none) else c0 y11_10 (IntKind.i64.wrap (x15_1 + 1)))
def path_Places.l0 (k:Nat) (self:T_api_Node→Option (List (List Int))) (a0:T_api_Node):Nat→List (List Int)→Int→Option (List (List Int))
 | 0,_,_ => none
 | m5 + 1,y11_2,x15_1 => (if (decide (x15_1 < (a0.Kids.length:Int)))=true then (if (0:Int) ≤ x15_1 ∧ x15_1 < (a0.Kids.length:Int) then ((self (rd a0.Kids x15_1)).bind fun (t7:(List (List Int))) => path_Places.l1 k (path_Places.l0 k self a0 m5) a0 x15_1 t7 k y11_2 0) else none) else some y11_2)
def path_Places:Nat→T_api_Node→Option (List (List Int))
 | 0,_ => none
 | k + 1,a0 => (if (a0.Kind != 1)=true then some ([]:List (List Int)) else path_Places.l0 k (path_Places k) a0 k ([([]:List Int)]:List (List Int)) 0)
theorem path_Places.ok {k:Nat} {a0:T_api_Node} {r:(List (List Int))} (H:path_Places k a0=some r):Vx.Fn Try.prog 10 [(.agg (e_api_Node a0))] [] (L 1 (eL 1 (eI .i64)) r) []:=by
 induction k generalizing a0 r with
 | zero => exact absurd H (by simp [path_Places])
 | succ k ih =>
  unfold path_Places at H
  refine Vx.Fn.of_okR Try.func10 rfl (Nat.le_of_ble_eq_true rfl) ?_
  refine Ok.seq ?_
  refine Ok.region (σ':=⟨[(1,(.bref 1 0))],[(1,(bxN a0))]⟩) ?_ ?_
  ·refine OpsOk.cut1 0 (.agg (c_api_Node a0)) (DLe.of_eq (congrArg D.agg (e_api_Node_c _).symm)) ?_
   refine .rn 2 ?_
   exact .dn
  refine Ok.seq ?_
  refine Ok.seq ?_
  refine .rg [(1,(.bref 1 0)),(10,(.v (.bool (a0.Kind != 1))))] [(1,(bxN a0))] ?_
  refine Ok.test (b:=(a0.Kind != 1)) rfl (fun hb19 => ?_) (fun hb19 => ?_)
  ·replace H:=ifT H hb19
   refine Ok.seq ?_
   refine .rg [(2,(.v (.slice none 0 0)))] [] ?_
   refine Ok.le (σ':=⟨[(2,(L 1 (eL 1 (eI .i64)) ([]:List (List Int))))],[]⟩) (.mk ⟨.nil _,trivial⟩ trivial) ?_
   refine Ok.ret ?_
   obtain rfl:=Option.some.inj H
   exact⟨.inl rfl,⟨_,(.cons (.tmp rfl) .nil),rfl⟩,trivial⟩
  ·replace H:=ifF H hb19
   refine Ok.skip ?_
   refine Ok.seq ?_
   refine Ok.region (σ':=⟨[(1,(.bref 1 0)),(3,(.sref 11))],[(1,(bxN a0)),(11,(.rows true 28 1 (([([]:List Int)]:List (List Int)).map (eL 1 (eI .i64)))))]⟩) ?_ ?_
   ·refine OpsOk.cons rfl (OpOk.litTE 11 rfl rfl Try.underlying34 sz28 zs28 rfl (nilEv_le 1 _) (rows:=([([]:List Int)]:List (List Int)).map (eL 1 (eI .i64))) rfl rfl rfl rfl) ?_
    refine .rn 1 ?_
    exact .dn
   refine Ok.seq ?_
   refine Ok.seq ?_
   refine Ok.region (σ':=⟨[(3,(.sref 11)),(13,(L 6 e_api_Node a0.Kids)),(14,(.v (.int .i64 (a0.Kids.length:Int)))),(15,(.v (.int .i64 0)))],[(11,(.rows true 28 1 (([([]:List Int)]:List (List Int)).map (eL 1 (eI .i64)))))]⟩) ?_ ?_
   ·refine .rn 2 ?_
    refine .cv (VOk.lenL (e:=e_api_Node) (xs:=a0.Kids) rfl Try.underlying25 rfl) rfl rfl ?_
    refine .rn 1 ?_
    exact .dn
   refine Ok.block ?_
   refine Ok.loop (fun m5 σ => ∃ (y11_2:List (List Int)) (x15_1:Int),σ=⟨[(3,(.sref 11)),(13,(L 6 e_api_Node a0.Kids)),(14,(.v (.int .i64 (a0.Kids.length:Int)))),(15,(.v (.int .i64 x15_1)))],[(11,(.rows true 28 1 (y11_2.map (eL 1 (eI .i64)))))]⟩ ∧ path_Places.l0 k (path_Places k) a0 m5 y11_2 x15_1=some r) k ⟨([([]:List Int)]:List (List Int)),0,rfl,H⟩ ?_
   rintro m5 σ ⟨y11_2,x15_1,rfl,H⟩
   cases m5 with
   | zero => exact absurd H (by simp [path_Places.l0])
   | succ m5 =>
    unfold path_Places.l0 at H
    refine Ok.seq ?_
    refine .rg [(3,(.sref 11)),(13,(L 6 e_api_Node a0.Kids)),(14,(.v (.int .i64 (a0.Kids.length:Int)))),(15,(.v (.int .i64 x15_1))),(16,(.v (.bool (decide (x15_1 < (a0.Kids.length:Int))))))] [(11,(.rows true 28 1 (y11_2.map (eL 1 (eI .i64)))))] ?_
    refine Ok.seq ?_
    refine Ok.test (b:=(decide (x15_1 < (a0.Kids.length:Int)))) rfl (fun hb18 => ?_) (fun hb18 => ?_)
    ·replace H:=ifT H hb18
     refine Ok.skip ?_
     refine Ok.seq ?_
     refine Ok.block ?_
     refine Ok.seq ?_
     obtain⟨c6,H⟩:=assertE H
     refine Ok.region (σ':=⟨[(3,(.sref 11)),(4,(.v (.int .i64 x15_1))),(5,(.bref 5 0)),(13,(L 6 e_api_Node a0.Kids)),(14,(.v (.int .i64 (a0.Kids.length:Int)))),(15,(.v (.int .i64 x15_1)))],[(5,(.box .ex (c_api_Node (rd a0.Kids x15_1)))),(11,(.rows true 28 1 (y11_2.map (eL 1 (eI .i64)))))]⟩) ?_ ?_
     ·refine .rn 1 ?_
      refine .cv (VOk.indexL (sz:=6) (e:=e_api_Node) (xs:=a0.Kids) (i:=x15_1) rfl Try.underlying25 sz27 rfl rfl c6) rfl rfl ?_
      refine .rn 3 ?_
      refine OpsOk.cut1 19 (.agg [(.v (.int .i64 ((rd a0.Kids x15_1).Kind))),(S ((rd a0.Kids x15_1).Name.Space)),(S ((rd a0.Kids x15_1).Name.Local)),(L 3 e_api_Attr ((rd a0.Kids x15_1).Attrs)),(L 6 e_api_Node ((rd a0.Kids x15_1).Kids)),(S ((rd a0.Kids x15_1).Text))]) (DLe.of_eq (congrArg D.agg (e_api_Node_c _).symm)) ?_
      refine .rn 1 ?_
      exact .dn
     refine Ok.seq ?_
     obtain⟨t7,h8,H⟩:=bindE H
     refine Ok.region (σ':=⟨[(3,(.sref 11)),(4,(.v (.int .i64 x15_1))),(13,(L 6 e_api_Node a0.Kids)),(14,(.v (.int .i64 (a0.Kids.length:Int)))),(15,(.v (.int .i64 x15_1))),(21,(L 1 (eL 1 (eI .i64)) t7)),(22,(.v (.int .i64 (t7.length:Int)))),(23,(.v (.int .i64 0)))],[(11,(.rows true 28 1 (y11_2.map (eL 1 (eI .i64)))))]⟩) ?_ ?_
     ·refine .cv (VOk.to (d':=(.agg (e_api_Node (rd a0.Kids x15_1)))) (.loadBAgg rfl Try.underlying27 rfl sz27 rfl rfl rfl) (congrArg D.agg (e_api_Node_c (rd a0.Kids x15_1)).symm)) rfl rfl ?_
      refine .cg (GOk.call rfl rfl cl10 rfl (@ih _ _ h8) rfl) rfl rfl ?_
      refine .cv (VOk.lenL (e:=(eL 1 (eI .i64))) (xs:=t7) rfl Try.underlying34 rfl) rfl rfl ?_
      refine .rn 1 ?_
      exact .dn
     refine Ok.block ?_
     refine Ok.loop (fun m13 σ => ∃ (y11_10:List (List Int)) (x23_9:Int),σ=⟨[(3,(.sref 11)),(4,(.v (.int .i64 x15_1))),(13,(L 6 e_api_Node a0.Kids)),(14,(.v (.int .i64 (a0.Kids.length:Int)))),(15,(.v (.int .i64 x15_1))),(21,(L 1 (eL 1 (eI .i64)) t7)),(22,(.v (.int .i64 (t7.length:Int)))),(23,(.v (.int .i64 x23_9)))],[(11,(.rows true 28 1 (y11_10.map (eL 1 (eI .i64)))))]⟩ ∧ path_Places.l1 k (path_Places.l0 k (path_Places k) a0 m5) a0 x15_1 t7 m13 y11_10 x23_9=some r) k ⟨y11_2,0,rfl,H⟩ ?_
     rintro m13 σ ⟨y11_10,x23_9,rfl,H⟩
     cases m13 with
     | zero => exact absurd H (by simp [path_Places.l1])
     | succ m13 =>
      unfold path_Places.l1 at H
      refine Ok.seq ?_
      refine .rg [(3,(.sref 11)),(4,(.v (.int .i64 x15_1))),(13,(L 6 e_api_Node a0.Kids)),(14,(.v (.int .i64 (a0.Kids.length:Int)))),(15,(.v (.int .i64 x15_1))),(21,(L 1 (eL 1 (eI .i64)) t7)),(22,(.v (.int .i64 (t7.length:Int)))),(23,(.v (.int .i64 x23_9))),(24,(.v (.bool (decide (x23_9 < (t7.length:Int))))))] [(11,(.rows true 28 1 (y11_10.map (eL 1 (eI .i64)))))] ?_
      refine Ok.seq ?_
      refine Ok.test (b:=(decide (x23_9 < (t7.length:Int)))) rfl (fun hb17 => ?_) (fun hb17 => ?_)
      ·replace H:=ifT H hb17
       refine Ok.skip ?_
       refine Ok.seq ?_
       refine Ok.block ?_
       refine Ok.seq ?_
       obtain⟨c14,H⟩:=assertE H
       refine Ok.region (σ':=⟨[(3,(.sref 11)),(4,(.v (.int .i64 x15_1))),(7,(L 1 (eI .i64) (rd t7 x23_9))),(13,(L 6 e_api_Node a0.Kids)),(14,(.v (.int .i64 (a0.Kids.length:Int)))),(15,(.v (.int .i64 x15_1))),(21,(L 1 (eL 1 (eI .i64)) t7)),(22,(.v (.int .i64 (t7.length:Int)))),(23,(.v (.int .i64 x23_9)))],[(11,(.rows true 28 1 (y11_10.map (eL 1 (eI .i64)))))]⟩) ?_ ?_
       ·refine .cv (VOk.indexL (sz:=1) (e:=(eL 1 (eI .i64))) (xs:=t7) (i:=x23_9) rfl Try.underlying34 sz28 rfl rfl c14) rfl rfl ?_
        refine .rn 2 ?_
        exact .dn
       obtain⟨c15,H⟩:=assertE H
       obtain⟨c16,H⟩:=assertE H
       refine Ok.region (σ':=⟨[(3,(.sref 11)),(4,(.v (.int .i64 x15_1))),(13,(L 6 e_api_Node a0.Kids)),(14,(.v (.int .i64 (a0.Kids.length:Int)))),(15,(.v (.int .i64 x15_1))),(21,(L 1 (eL 1 (eI .i64)) t7)),(22,(.v (.int .i64 (t7.length:Int)))),(23,(.v (.int .i64 x23_9)))],[(11,(.rows true 28 1 ((y11_10 ++ ([(([x15_1]:List Int) ++ (rd t7 x23_9))]:List (List Int))).map (eL 1 (eI .i64)))))]⟩) ?_ ?_
       ·refine .rn 2 ?_
        refine .cg (GOk.to (d':=(.clist 1 (List.map (eI .i64) ([x15_1]:List Int)))) (GOk.litC rfl Try.underlying28 sz3 zs3 rfl rfl rfl rfl) rfl) rfl rfl ?_
        refine .rn 1 ?_
        refine .cg (GOk.appendC (e:=(eI .i64)) (xs:=([x15_1]:List Int)) (ys:=(rd t7 x23_9)) rfl Try.underlying28 elt3 (.same _) rfl c15) rfl rfl ?_
        refine .cg (GOk.to (d':=(L 1 (eL 1 (eI .i64)) ([(([x15_1]:List Int) ++ (rd t7 x23_9))]:List (List Int)))) (GOk.lit rfl Try.underlying34 sz28 zs28 rfl rfl rfl rfl) rfl) rfl rfl ?_
        refine OpsOk.cons rfl (OpOk.appendL (e:=(eL 1 (eI .i64))) (xs:=y11_10) (ys:=([(([x15_1]:List Int) ++ (rd t7 x23_9))]:List (List Int))) rfl Try.underlying34 elt28 rfl rfl rfl c16 rfl) ?_
        refine .rn 1 ?_
        exact .dn
       refine .rg [(3,(.sref 11)),(4,(.v (.int .i64 x15_1))),(13,(L 6 e_api_Node a0.Kids)),(14,(.v (.int .i64 (a0.Kids.length:Int)))),(15,(.v (.int .i64 x15_1))),(21,(L 1 (eL 1 (eI .i64)) t7)),(22,(.v (.int .i64 (t7.length:Int)))),(23,(.v (.int .i64 (IntKind.i64.wrap (x23_9 + 1)))))] [(11,(.rows true 28 1 ((y11_10 ++ ([(([x15_1]:List Int) ++ (rd t7 x23_9))]:List (List Int))).map (eL 1 (eI .i64)))))] ?_
       exact⟨m13,Nat.lt_succ_self m13,(y11_10 ++ ([(([x15_1]:List Int) ++ (rd t7 x23_9))]:List (List Int))),(IntKind.i64.wrap (x23_9 + 1)),rfl,H⟩
      ·replace H:=ifF H hb17
       refine Ok.exit ?_
       refine .rg [(3,(.sref 11)),(13,(L 6 e_api_Node a0.Kids)),(14,(.v (.int .i64 (a0.Kids.length:Int)))),(15,(.v (.int .i64 (IntKind.i64.wrap (x15_1 + 1)))))] [(11,(.rows true 28 1 (y11_10.map (eL 1 (eI .i64)))))] ?_
       exact⟨m5,Nat.lt_succ_self m5,y11_10,(IntKind.i64.wrap (x15_1 + 1)),rfl,H⟩
    ·replace H:=ifF H hb18
     refine Ok.exit ?_
     refine Ok.seq ?_
     refine .rg [(2,(.sref 11))] [(11,(.rows true 28 1 (y11_2.map (eL 1 (eI .i64)))))] ?_
     refine Ok.frzL 11 (e:=(eL 1 (eI .i64))) (xs:=y11_2) rfl ?_
     refine Ok.ret ?_
     obtain rfl:=Option.some.inj H
     exact⟨.inl rfl,⟨_,(.cons (.tmp rfl) .nil),rfl⟩,trivial⟩
def watchbilllaw04_weigh.l1 (k:Nat) (self:T_api_Node→Int→Option Int) (a1:Int):Nat→Int→Str→Str→List T_api_Attr→List T_api_Node→Str→Int→Int→Option Int
 | 0,_,_,_,_,_,_,_,_ => none
 | m39 + 1,y2_0_25,y2_1_26,y2_2_27,y2_3_28,y2_4_29,y2_5_30,x5_23,x7_24 => (if ((decide (x7_24 < (y2_4_29.length:Int))) && (decide (x5_23 ≤ a1)))=true then (if (0:Int) ≤ x7_24 ∧ x7_24 < (y2_4_29.length:Int) then ((self (rd y2_4_29 x7_24) (IntKind.i64.wrap (a1 - x5_23))).bind fun (t43:Int) => watchbilllaw04_weigh.l1 k self a1 m39 y2_0_25 y2_1_26 y2_2_27 y2_3_28 y2_4_29 y2_5_30 (IntKind.i64.wrap (x5_23 + t43)) (IntKind.i64.wrap (x7_24 + 1))) else none) else some x5_23)
def watchbilllaw04_weigh.l0 (k:Nat) (self:T_api_Node→Int→Option Int) (a1:Int):Nat→Int→Str→Str→List T_api_Attr→List T_api_Node→Str→Int→Int→Option Int
 | 0,_,_,_,_,_,_,_,_ => none
 | m17 + 1,y2_0_3,y2_1_4,y2_2_5,y2_3_6,y2_4_7,y2_5_8,x5_1,x6_2 => (if ((decide (x6_2 < (y2_3_6.length:Int))) && (decide (x5_1 ≤ a1)))=true then (if (0:Int) ≤ x6_2 ∧ x6_2 < (y2_3_6.length:Int) then (if (0:Int) ≤ x6_2 ∧ x6_2 < (y2_3_6.length:Int) then (if (0:Int) ≤ x6_2 ∧ x6_2 < (y2_3_6.length:Int) then watchbilllaw04_weigh.l0 k self a1 m17 y2_0_3 y2_1_4 y2_2_5 y2_3_6 y2_4_7 y2_5_8 (IntKind.i64.wrap ((IntKind.i64.wrap ((IntKind.i64.wrap (x5_1 + (if a1 < ((((rd y2_3_6 x6_2).Name).Space).length:Int) then a1 else ((((rd y2_3_6 x6_2).Name).Space).length:Int)))) + (if a1 < ((((rd y2_3_6 x6_2).Name).Local).length:Int) then a1 else ((((rd y2_3_6 x6_2).Name).Local).length:Int)))) + (if a1 < (((rd y2_3_6 x6_2).Value).length:Int) then a1 else (((rd y2_3_6 x6_2).Value).length:Int)))) (IntKind.i64.wrap (x6_2 + 1)) else none) else none) else none) else watchbilllaw04_weigh.l1 k self a1 k y2_0_3 y2_1_4 y2_2_5 y2_3_6 y2_4_7 y2_5_8 x5_1 0)
def watchbilllaw04_weigh:Nat→T_api_Node→Int→Option Int
 | 0,_,_ => none
 | k + 1,a0,a1 => watchbilllaw04_weigh.l0 k (watchbilllaw04_weigh k) a1 k a0.Kind a0.Name.Space a0.Name.Local a0.Attrs a0.Kids a0.Text (IntKind.i64.wrap ((IntKind.i64.wrap ((IntKind.i64.wrap ((IntKind.i64.wrap (1 + (if a1 < (a0.Text.length:Int) then a1 else (a0.Text.length:Int)))) + (if a1 < (a0.Name.Space.length:Int) then a1 else (a0.Name.Space.length:Int)))) + (if a1 < (a0.Name.Local.length:Int) then a1 else (a0.Name.Local.length:Int)))) + (if a1 < (a0.Attrs.length:Int) then a1 else (a0.Attrs.length:Int)))) 0
theorem watchbilllaw04_weigh.ok {k:Nat} {a0:T_api_Node} {a1:Int} {r:Int} (H:watchbilllaw04_weigh k a0 a1=some r):Vx.Fn Try.prog 26 [(.agg (e_api_Node a0)),(.v (.int .i64 a1))] [] (.v (.int .i64 r)) []:=by
 induction k generalizing a0 a1 r with
 | zero => exact absurd H (by simp [watchbilllaw04_weigh])
 | succ k ih =>
  unfold watchbilllaw04_weigh at H
  refine Vx.Fn.of_okR Try.func26 rfl (Nat.le_of_ble_eq_true rfl) ?_
  refine Ok.seq ?_
  refine Ok.region (σ':=⟨[(1,(.v (.int .i64 a1))),(2,(.bref 2 0))],[(2,(bxN a0))]⟩) ?_ ?_
  ·refine OpsOk.cut1 0 (.agg (c_api_Node a0)) (DLe.of_eq (congrArg D.agg (e_api_Node_c _).symm)) ?_
   refine .rn 2 ?_
   exact .dn
  refine Ok.seq ?_
  refine Ok.region (σ':=⟨[(1,(.v (.int .i64 a1))),(2,(.bref 2 0)),(5,(.v (.int .i64 (IntKind.i64.wrap ((IntKind.i64.wrap ((IntKind.i64.wrap ((IntKind.i64.wrap (1 + (if a1 < (a0.Text.length:Int) then a1 else (a0.Text.length:Int)))) + (if a1 < (a0.Name.Space.length:Int) then a1 else (a0.Name.Space.length:Int)))) + (if a1 < (a0.Name.Local.length:Int) then a1 else (a0.Name.Local.length:Int)))) + (if a1 < (a0.Attrs.length:Int) then a1 else (a0.Attrs.length:Int)))))))],[(2,(bxN a0))]⟩) ?_ ?_
  ·refine .rn 4 ?_
   refine .cv (VOk.min2 (a:=(a0.Text.length:Int)) (b:=a1) rfl rfl rfl) rfl rfl ?_
   refine .rn 6 ?_
   refine .cv (VOk.min2 (a:=(a0.Name.Space.length:Int)) (b:=a1) rfl rfl rfl) rfl rfl ?_
   refine .rn 6 ?_
   refine .cv (VOk.min2 (a:=(a0.Name.Local.length:Int)) (b:=a1) rfl rfl rfl) rfl rfl ?_
   refine .rn 3 ?_
   refine .cv (VOk.lenL (e:=e_api_Attr) (xs:=a0.Attrs) rfl Try.underlying24 rfl) rfl rfl ?_
   refine .rn 1 ?_
   refine .cv (VOk.min2 (a:=(a0.Attrs.length:Int)) (b:=a1) rfl rfl rfl) rfl rfl ?_
   refine .rn 2 ?_
   exact .dn
  refine Ok.seq ?_
  refine Ok.seq ?_
  refine .rg [(1,(.v (.int .i64 a1))),(2,(.bref 2 0)),(5,(.v (.int .i64 (IntKind.i64.wrap ((IntKind.i64.wrap ((IntKind.i64.wrap ((IntKind.i64.wrap (1 + (if a1 < (a0.Text.length:Int) then a1 else (a0.Text.length:Int)))) + (if a1 < (a0.Name.Space.length:Int) then a1 else (a0.Name.Space.length:Int)))) + (if a1 < (a0.Name.Local.length:Int) then a1 else (a0.Name.Local.length:Int)))) + (if a1 < (a0.Attrs.length:Int) then a1 else (a0.Attrs.length:Int))))))),(6,(.v (.int .i64 0)))] [(2,(bxN a0))] ?_
  refine Ok.block ?_
  refine Ok.loop (fun m17 σ => ∃ (y2_0_3:Int) (y2_1_4:Str) (y2_2_5:Str) (y2_3_6:List T_api_Attr) (y2_4_7:List T_api_Node) (y2_5_8:Str) (x5_1:Int) (x6_2:Int),σ=⟨[(1,(.v (.int .i64 a1))),(2,(.bref 2 0)),(5,(.v (.int .i64 x5_1))),(6,(.v (.int .i64 x6_2)))],[(2,(.box .ex [(.v (.int .i64 y2_0_3)),(S y2_1_4),(S y2_2_5),(L 3 e_api_Attr y2_3_6),(L 6 e_api_Node y2_4_7),(S y2_5_8)]))]⟩ ∧ watchbilllaw04_weigh.l0 k (watchbilllaw04_weigh k) a1 m17 y2_0_3 y2_1_4 y2_2_5 y2_3_6 y2_4_7 y2_5_8 x5_1 x6_2=some r) k ⟨a0.Kind,a0.Name.Space,a0.Name.Local,a0.Attrs,a0.Kids,a0.Text,(IntKind.i64.wrap ((IntKind.i64.wrap ((IntKind.i64.wrap ((IntKind.i64.wrap (1 + (if a1 < (a0.Text.length:Int) then a1 else (a0.Text.length:Int)))) + (if a1 < (a0.Name.Space.length:Int) then a1 else (a0.Name.Space.length:Int)))) + (if a1 < (a0.Name.Local.length:Int) then a1 else (a0.Name.Local.length:Int)))) + (if a1 < (a0.Attrs.length:Int) then a1 else (a0.Attrs.length:Int)))),0,rfl,H⟩ ?_
  rintro m17 σ ⟨y2_0_3,y2_1_4,y2_2_5,y2_3_6,y2_4_7,y2_5_8,x5_1,x6_2,rfl,H⟩
  cases m17 with
  | zero => exact absurd H (by simp [watchbilllaw04_weigh.l0])
  | succ m17 =>
   unfold watchbilllaw04_weigh.l0 at H
   refine Ok.seq ?_
   refine Ok.seq ?_
   refine Ok.region (σ':=⟨[(1,(.v (.int .i64 a1))),(2,(.bref 2 0)),(5,(.v (.int .i64 x5_1))),(6,(.v (.int .i64 x6_2))),(43,(.v (.bool ((decide (x6_2 < (y2_3_6.length:Int))) && (decide (x5_1 ≤ a1))))))],[(2,(.box .ex [(.v (.int .i64 y2_0_3)),(S y2_1_4),(S y2_2_5),(L 3 e_api_Attr y2_3_6),(L 6 e_api_Node y2_4_7),(S y2_5_8)]))]⟩) ?_ ?_
   ·refine .rn 3 ?_
    refine .cv (VOk.lenL (e:=e_api_Attr) (xs:=y2_3_6) rfl Try.underlying24 rfl) rfl rfl ?_
    refine .rn 2 ?_
    refine OpsOk.consI rfl rfl rfl (.one rfl) rfl (fun hw18 => (VOk.g (VOk.mv (d:=(.v (.int .i64 x5_1))) rfl rfl))) ?_
    refine OpsOk.consI rfl rfl rfl (.one rfl) rfl (fun hw18 => (VOk.g (VOk.mv (d:=(.v (.int .i64 a1))) rfl rfl))) ?_
    refine OpsOk.consI rfl rfl rfl (.one rfl) rfl (fun hw18 => (GOk.fr (fr':=[(40,(.v (.int .i64 x5_1))),(41,(.v (.int .i64 a1)))]) ⟨DLe.of_eq (cT hw18).symm,DLe.of_eq (cT hw18).symm,trivial⟩ (VOk.g (VOk.arith (op:=.leq) (k:=.i64) (a:=x5_1) (b:=a1) rfl rfl rfl rfl)))) ?_
    refine .cv (VOk.to (VOk.pickI (b:=(decide (x6_2 < (y2_3_6.length:Int)))) (p:=(decide (x5_1 ≤ a1))) (q:=false) rfl rfl (fun hp19 => (cT (t_beq hp19))) (fun hp19 => rfl)) (pickAnd (decide (x6_2 < (y2_3_6.length:Int))) (decide (x5_1 ≤ a1)))) rfl rfl ?_
    exact .dn
   refine Ok.test (b:=((decide (x6_2 < (y2_3_6.length:Int))) && (decide (x5_1 ≤ a1)))) rfl (fun hb46 => ?_) (fun hb46 => ?_)
   ·replace H:=ifT H hb46
    refine Ok.skip ?_
    refine Ok.seq ?_
    refine Ok.block ?_
    obtain⟨c20,H⟩:=assertE H
    obtain⟨c21,H⟩:=assertE H
    obtain⟨c22,H⟩:=assertE H
    refine .dA [(1,(.v (.int .i64 a1))),(2,(.bref 2 0)),(5,(.v (.int .i64 (IntKind.i64.wrap ((IntKind.i64.wrap ((IntKind.i64.wrap (x5_1 + (if a1 < ((((rd y2_3_6 x6_2).Name).Space).length:Int) then a1 else ((((rd y2_3_6 x6_2).Name).Space).length:Int)))) + (if a1 < ((((rd y2_3_6 x6_2).Name).Local).length:Int) then a1 else ((((rd y2_3_6 x6_2).Name).Local).length:Int)))) + (if a1 < (((rd y2_3_6 x6_2).Value).length:Int) then a1 else (((rd y2_3_6 x6_2).Value).length:Int))))))),(6,(.v (.int .i64 x6_2)))] [(2,(.box .ex [(.v (.int .i64 y2_0_3)),(S y2_1_4),(S y2_2_5),(L 3 e_api_Attr y2_3_6),(L 6 e_api_Node y2_4_7),(S y2_5_8)]))] [[],[],[1],[],[2,3],[4],[5],[6],[7],[],[8,9],[0,10],[],[12],[],[13,14],[15],[16],[17],[18],[],[19,20],[11,21],[],[23],[],[24,25],[26],[27],[28],[],[29,30],[22,31],[0,32]] mixed ?_ ?_
    ·refine .tn 4 ?_
     refine .tc (VOk.g (VOk.indexL (sz:=3) (e:=e_api_Attr) (xs:=y2_3_6) (i:=x6_2) rfl Try.underlying24 sz47 rfl rfl c20)) ?_
     refine .tn 3 ?_
     refine .tc (VOk.g (VOk.lenStr (s:=((rd y2_3_6 x6_2).Name).Space) rfl Try.underlying9 rfl)) ?_
     refine .tn 1 ?_
     refine .tc (VOk.g (VOk.min2 (a:=((((rd y2_3_6 x6_2).Name).Space).length:Int)) (b:=a1) rfl rfl rfl)) ?_
     refine .tn 4 ?_
     refine .tc (VOk.g (VOk.indexL (sz:=3) (e:=e_api_Attr) (xs:=y2_3_6) (i:=x6_2) rfl Try.underlying24 sz47 rfl rfl c21)) ?_
     refine .tn 3 ?_
     refine .tc (VOk.g (VOk.lenStr (s:=((rd y2_3_6 x6_2).Name).Local) rfl Try.underlying9 rfl)) ?_
     refine .tn 1 ?_
     refine .tc (VOk.g (VOk.min2 (a:=((((rd y2_3_6 x6_2).Name).Local).length:Int)) (b:=a1) rfl rfl rfl)) ?_
     refine .tn 4 ?_
     refine .tc (VOk.g (VOk.indexL (sz:=3) (e:=e_api_Attr) (xs:=y2_3_6) (i:=x6_2) rfl Try.underlying24 sz47 rfl rfl c22)) ?_
     refine .tn 2 ?_
     refine .tc (VOk.g (VOk.lenStr (s:=(rd y2_3_6 x6_2).Value) rfl Try.underlying9 rfl)) ?_
     refine .tn 1 ?_
     refine .tc (VOk.g (VOk.min2 (a:=(((rd y2_3_6 x6_2).Value).length:Int)) (b:=a1) rfl rfl rfl)) ?_
     refine .tn 2 ?_
     exact .dn
    refine .rg [(1,(.v (.int .i64 a1))),(2,(.bref 2 0)),(5,(.v (.int .i64 (IntKind.i64.wrap ((IntKind.i64.wrap ((IntKind.i64.wrap (x5_1 + (if a1 < ((((rd y2_3_6 x6_2).Name).Space).length:Int) then a1 else ((((rd y2_3_6 x6_2).Name).Space).length:Int)))) + (if a1 < ((((rd y2_3_6 x6_2).Name).Local).length:Int) then a1 else ((((rd y2_3_6 x6_2).Name).Local).length:Int)))) + (if a1 < (((rd y2_3_6 x6_2).Value).length:Int) then a1 else (((rd y2_3_6 x6_2).Value).length:Int))))))),(6,(.v (.int .i64 (IntKind.i64.wrap (x6_2 + 1)))))] [(2,(.box .ex [(.v (.int .i64 y2_0_3)),(S y2_1_4),(S y2_2_5),(L 3 e_api_Attr y2_3_6),(L 6 e_api_Node y2_4_7),(S y2_5_8)]))] ?_
    exact⟨m17,Nat.lt_succ_self m17,y2_0_3,y2_1_4,y2_2_5,y2_3_6,y2_4_7,y2_5_8,(IntKind.i64.wrap ((IntKind.i64.wrap ((IntKind.i64.wrap (x5_1 + (if a1 < ((((rd y2_3_6 x6_2).Name).Space).length:Int) then a1 else ((((rd y2_3_6 x6_2).Name).Space).length:Int)))) + (if a1 < ((((rd y2_3_6 x6_2).Name).Local).length:Int) then a1 else ((((rd y2_3_6 x6_2).Name).Local).length:Int)))) + (if a1 < (((rd y2_3_6 x6_2).Value).length:Int) then a1 else (((rd y2_3_6 x6_2).Value).length:Int)))),(IntKind.i64.wrap (x6_2 + 1)),rfl,H⟩
   ·replace H:=ifF H hb46
    refine Ok.exit ?_
    refine Ok.seq ?_
    refine Ok.seq ?_
    refine .rg [(1,(.v (.int .i64 a1))),(2,(.bref 2 0)),(5,(.v (.int .i64 x5_1))),(7,(.v (.int .i64 0)))] [(2,(.box .ex [(.v (.int .i64 y2_0_3)),(S y2_1_4),(S y2_2_5),(L 3 e_api_Attr y2_3_6),(L 6 e_api_Node y2_4_7),(S y2_5_8)]))] ?_
    refine Ok.block ?_
    refine Ok.loop (fun m39 σ => ∃ (y2_0_25:Int) (y2_1_26:Str) (y2_2_27:Str) (y2_3_28:List T_api_Attr) (y2_4_29:List T_api_Node) (y2_5_30:Str) (x5_23:Int) (x7_24:Int),σ=⟨[(1,(.v (.int .i64 a1))),(2,(.bref 2 0)),(5,(.v (.int .i64 x5_23))),(7,(.v (.int .i64 x7_24)))],[(2,(.box .ex [(.v (.int .i64 y2_0_25)),(S y2_1_26),(S y2_2_27),(L 3 e_api_Attr y2_3_28),(L 6 e_api_Node y2_4_29),(S y2_5_30)]))]⟩ ∧ watchbilllaw04_weigh.l1 k (watchbilllaw04_weigh k) a1 m39 y2_0_25 y2_1_26 y2_2_27 y2_3_28 y2_4_29 y2_5_30 x5_23 x7_24=some r) k ⟨y2_0_3,y2_1_4,y2_2_5,y2_3_6,y2_4_7,y2_5_8,x5_1,0,rfl,H⟩ ?_
    rintro m39 σ ⟨y2_0_25,y2_1_26,y2_2_27,y2_3_28,y2_4_29,y2_5_30,x5_23,x7_24,rfl,H⟩
    cases m39 with
    | zero => exact absurd H (by simp [watchbilllaw04_weigh.l1])
    | succ m39 =>
     unfold watchbilllaw04_weigh.l1 at H
     refine Ok.seq ?_
     refine Ok.seq ?_
     refine Ok.region (σ':=⟨[(1,(.v (.int .i64 a1))),(2,(.bref 2 0)),(5,(.v (.int .i64 x5_23))),(7,(.v (.int .i64 x7_24))),(88,(.v (.bool ((decide (x7_24 < (y2_4_29.length:Int))) && (decide (x5_23 ≤ a1))))))],[(2,(.box .ex [(.v (.int .i64 y2_0_25)),(S y2_1_26),(S y2_2_27),(L 3 e_api_Attr y2_3_28),(L 6 e_api_Node y2_4_29),(S y2_5_30)]))]⟩) ?_ ?_
     ·refine .rn 3 ?_
      refine .cv (VOk.lenL (e:=e_api_Node) (xs:=y2_4_29) rfl Try.underlying25 rfl) rfl rfl ?_
      refine .rn 2 ?_
      refine OpsOk.consI rfl rfl rfl (.one rfl) rfl (fun hw40 => (VOk.g (VOk.mv (d:=(.v (.int .i64 x5_23))) rfl rfl))) ?_
      refine OpsOk.consI rfl rfl rfl (.one rfl) rfl (fun hw40 => (VOk.g (VOk.mv (d:=(.v (.int .i64 a1))) rfl rfl))) ?_
      refine OpsOk.consI rfl rfl rfl (.one rfl) rfl (fun hw40 => (GOk.fr (fr':=[(85,(.v (.int .i64 x5_23))),(86,(.v (.int .i64 a1)))]) ⟨DLe.of_eq (cT hw40).symm,DLe.of_eq (cT hw40).symm,trivial⟩ (VOk.g (VOk.arith (op:=.leq) (k:=.i64) (a:=x5_23) (b:=a1) rfl rfl rfl rfl)))) ?_
      refine .cv (VOk.to (VOk.pickI (b:=(decide (x7_24 < (y2_4_29.length:Int)))) (p:=(decide (x5_23 ≤ a1))) (q:=false) rfl rfl (fun hp41 => (cT (t_beq hp41))) (fun hp41 => rfl)) (pickAnd (decide (x7_24 < (y2_4_29.length:Int))) (decide (x5_23 ≤ a1)))) rfl rfl ?_
      exact .dn
     refine Ok.test (b:=((decide (x7_24 < (y2_4_29.length:Int))) && (decide (x5_23 ≤ a1)))) rfl (fun hb45 => ?_) (fun hb45 => ?_)
     ·replace H:=ifT H hb45
      refine Ok.skip ?_
      refine Ok.seq ?_
      refine Ok.block ?_
      obtain⟨c42,H⟩:=assertE H
      obtain⟨t43,h44,H⟩:=bindE H
      refine Ok.region (σ':=⟨[(1,(.v (.int .i64 a1))),(2,(.bref 2 0)),(5,(.v (.int .i64 (IntKind.i64.wrap (x5_23 + t43))))),(7,(.v (.int .i64 x7_24)))],[(2,(.box .ex [(.v (.int .i64 y2_0_25)),(S y2_1_26),(S y2_2_27),(L 3 e_api_Attr y2_3_28),(L 6 e_api_Node y2_4_29),(S y2_5_30)]))]⟩) ?_ ?_
      ·refine .rn 4 ?_
       refine .cv (VOk.indexL (sz:=6) (e:=e_api_Node) (xs:=y2_4_29) (i:=x7_24) rfl Try.underlying25 sz27 rfl rfl c42) rfl rfl ?_
       refine .rn 4 ?_
       refine .cg (GOk.call rfl rfl cl26 rfl (@ih _ _ _ h44) rfl) rfl rfl ?_
       refine .rn 2 ?_
       exact .dn
      refine .rg [(1,(.v (.int .i64 a1))),(2,(.bref 2 0)),(5,(.v (.int .i64 (IntKind.i64.wrap (x5_23 + t43))))),(7,(.v (.int .i64 (IntKind.i64.wrap (x7_24 + 1)))))] [(2,(.box .ex [(.v (.int .i64 y2_0_25)),(S y2_1_26),(S y2_2_27),(L 3 e_api_Attr y2_3_28),(L 6 e_api_Node y2_4_29),(S y2_5_30)]))] ?_
      exact⟨m39,Nat.lt_succ_self m39,y2_0_25,y2_1_26,y2_2_27,y2_3_28,y2_4_29,y2_5_30,(IntKind.i64.wrap (x5_23 + t43)),(IntKind.i64.wrap (x7_24 + 1)),rfl,H⟩
     ·replace H:=ifF H hb45
      refine Ok.exit ?_
      refine Ok.seq ?_
      refine .rg [(4,(.v (.int .i64 x5_23)))] [] ?_
      refine Ok.ret ?_
      obtain rfl:=Option.some.inj H
      exact⟨.inl rfl,⟨_,(.cons (.tmp rfl) .nil),rfl⟩,trivial⟩
def watchbilllaw04_Few (k:Nat) (a0:T_api_Node):Option Bool:=((watchbilllaw04_weigh k a0 30000).bind fun (t1:Int) => some (decide (t1 ≤ 30000)))
theorem watchbilllaw04_Few.ok {k:Nat} {a0:T_api_Node} {r:Bool} (H:watchbilllaw04_Few k a0=some r):Vx.Fn Try.prog 7 [(.agg (e_api_Node a0))] [] (.v (.bool r)) []:=by
 unfold watchbilllaw04_Few at H
 refine Vx.Fn.of_okR Try.func7 rfl (Nat.le_of_ble_eq_true rfl) ?_
 refine Ok.seq ?_
 refine Ok.region (σ':=⟨[(1,(.bref 1 0))],[(1,(bxN a0))]⟩) ?_ ?_
 ·refine OpsOk.cut1 0 (.agg (c_api_Node a0)) (DLe.of_eq (congrArg D.agg (e_api_Node_c _).symm)) ?_
  refine .rn 2 ?_
  exact .dn
 refine Ok.seq ?_
 obtain⟨t1,h2,H⟩:=bindE H
 refine Ok.region (σ':=⟨[(2,(.v (.bool (decide (t1 ≤ 30000)))))],[]⟩) ?_ ?_
 ·refine .cv (VOk.to (d':=(.agg (e_api_Node a0))) (.loadBAgg rfl Try.underlying27 rfl sz27 rfl rfl rfl) (congrArg D.agg (e_api_Node_c a0).symm)) rfl rfl ?_
  refine .cg (GOk.call rfl rfl cl26 rfl (watchbilllaw04_weigh.ok h2) rfl) rfl rfl ?_
  refine .rn 2 ?_
  exact .dn
 refine Ok.ret ?_
 obtain rfl:=Option.some.inj H
 exact⟨.inl rfl,⟨_,(.cons (.tmp rfl) .nil),rfl⟩,trivial⟩
def utf_shape (a0:Int):Option (Int × Int):=(if (decide (a0 < 128))=true then some (1,(IntKind.i32.wrap a0)) else (if (((a0).fdiv (2 ^ min (Int.toNat 5) (IntKind.bits .u8))) == 6)=true then some (2,(IntKind.i32.wrap (bitAnd .u8 a0 31))) else (if (((a0).fdiv (2 ^ min (Int.toNat 4) (IntKind.bits .u8))) == 14)=true then some (3,(IntKind.i32.wrap (bitAnd .u8 a0 15))) else (if (((a0).fdiv (2 ^ min (Int.toNat 3) (IntKind.bits .u8))) == 30)=true then some (4,(IntKind.i32.wrap (bitAnd .u8 a0 7))) else some (0,0)))))
theorem utf_shape.ok {a0:Int} {r:Int × Int} (H:utf_shape a0=some r):Vx.Fn Try.prog 62 [(.v (.int .u8 a0))] [] (.tup [(.v (.int .i64 r.1)),(.v (.int .i32 r.2))]) []:=by
 unfold utf_shape at H
 refine Vx.Fn.of_okR Try.func62 rfl (Nat.le_of_ble_eq_true rfl) ?_
 refine Ok.seq ?_
 refine .rg [(0,(.v (.int .u8 a0)))] [] ?_
 refine Ok.seq ?_
 refine Ok.block ?_
 refine Ok.seq ?_
 refine .rg [(0,(.v (.int .u8 a0))),(4,(.v (.bool (decide (a0 < 128)))))] [] ?_
 refine Ok.test (b:=(decide (a0 < 128))) rfl (fun hb4 => ?_) (fun hb4 => ?_)
 ·replace H:=ifT H hb4
  refine Ok.seq ?_
  refine .rg [(2,(.v (.int .i64 1))),(3,(.v (.int .i32 (IntKind.i32.wrap a0))))] [] ?_
  refine Ok.ret ?_
  obtain rfl:=Option.some.inj H
  exact⟨.inl rfl,⟨_,(.cons (.tmp rfl) (.cons (.tmp rfl) .nil)),rfl⟩,trivial⟩
 ·replace H:=ifF H hb4
  refine Ok.seq ?_
  refine Ok.region (σ':=⟨[(0,(.v (.int .u8 a0))),(9,(.v (.bool (((a0).fdiv (2 ^ min (Int.toNat 5) (IntKind.bits .u8))) == 6))))],[]⟩) ?_ ?_
  ·refine .rn 1 ?_
   refine .cv (VOk.shr (a:=a0) (b:=5) rfl rfl rfl (by decide)) rfl rfl ?_
   refine .rn 2 ?_
   exact .dn
  refine Ok.test (b:=(((a0).fdiv (2 ^ min (Int.toNat 5) (IntKind.bits .u8))) == 6)) rfl (fun hb3 => ?_) (fun hb3 => ?_)
  ·replace H:=ifT H hb3
   refine Ok.seq ?_
   refine .rg [(2,(.v (.int .i64 2))),(3,(.v (.int .i32 (IntKind.i32.wrap (bitAnd .u8 a0 31)))))] [] ?_
   refine Ok.ret ?_
   obtain rfl:=Option.some.inj H
   exact⟨.inl rfl,⟨_,(.cons (.tmp rfl) (.cons (.tmp rfl) .nil)),rfl⟩,trivial⟩
  ·replace H:=ifF H hb3
   refine Ok.seq ?_
   refine Ok.region (σ':=⟨[(0,(.v (.int .u8 a0))),(16,(.v (.bool (((a0).fdiv (2 ^ min (Int.toNat 4) (IntKind.bits .u8))) == 14))))],[]⟩) ?_ ?_
   ·refine .rn 1 ?_
    refine .cv (VOk.shr (a:=a0) (b:=4) rfl rfl rfl (by decide)) rfl rfl ?_
    refine .rn 2 ?_
    exact .dn
   refine Ok.test (b:=(((a0).fdiv (2 ^ min (Int.toNat 4) (IntKind.bits .u8))) == 14)) rfl (fun hb2 => ?_) (fun hb2 => ?_)
   ·replace H:=ifT H hb2
    refine Ok.seq ?_
    refine .rg [(2,(.v (.int .i64 3))),(3,(.v (.int .i32 (IntKind.i32.wrap (bitAnd .u8 a0 15)))))] [] ?_
    refine Ok.ret ?_
    obtain rfl:=Option.some.inj H
    exact⟨.inl rfl,⟨_,(.cons (.tmp rfl) (.cons (.tmp rfl) .nil)),rfl⟩,trivial⟩
   ·replace H:=ifF H hb2
    refine Ok.seq ?_
    refine Ok.region (σ':=⟨[(0,(.v (.int .u8 a0))),(23,(.v (.bool (((a0).fdiv (2 ^ min (Int.toNat 3) (IntKind.bits .u8))) == 30))))],[]⟩) ?_ ?_
    ·refine .rn 1 ?_
     refine .cv (VOk.shr (a:=a0) (b:=3) rfl rfl rfl (by decide)) rfl rfl ?_
     refine .rn 2 ?_
     exact .dn
    refine Ok.test (b:=(((a0).fdiv (2 ^ min (Int.toNat 3) (IntKind.bits .u8))) == 30)) rfl (fun hb1 => ?_) (fun hb1 => ?_)
    ·replace H:=ifT H hb1
     refine Ok.seq ?_
     refine .rg [(2,(.v (.int .i64 4))),(3,(.v (.int .i32 (IntKind.i32.wrap (bitAnd .u8 a0 7)))))] [] ?_
     refine Ok.ret ?_
     obtain rfl:=Option.some.inj H
     exact⟨.inl rfl,⟨_,(.cons (.tmp rfl) (.cons (.tmp rfl) .nil)),rfl⟩,trivial⟩
    ·replace H:=ifF H hb1
     refine Ok.skip ?_
     refine Ok.seq ?_
     refine .rg [(2,(.v (.int .i64 0))),(3,(.v (.int .i32 0)))] [] ?_
     refine Ok.ret ?_
     obtain rfl:=Option.some.inj H
     exact⟨.inl rfl,⟨_,(.cons (.tmp rfl) (.cons (.tmp rfl) .nil)),rfl⟩,trivial⟩
def utf_least (a0:Int):Option Int:=(if (a0 == 2)=true then some 128 else (if (a0 == 3)=true then some 2048 else (if (a0 == 4)=true then some 65536 else some 0)))
theorem utf_least.ok {a0:Int} {r:Int} (H:utf_least a0=some r):Vx.Fn Try.prog 63 [(.v (.int .i64 a0))] [] (.v (.int .i32 r)) []:=by
 unfold utf_least at H
 refine Vx.Fn.of_okR Try.func63 rfl (Nat.le_of_ble_eq_true rfl) ?_
 refine Ok.seq ?_
 refine .rg [(0,(.v (.int .i64 a0)))] [] ?_
 refine Ok.seq ?_
 refine Ok.seq ?_
 refine .rg [(3,(.v (.int .i64 a0)))] [] ?_
 refine Ok.block ?_
 refine Ok.seq ?_
 refine .rg [(3,(.v (.int .i64 a0))),(4,(.v (.bool (a0 == 2))))] [] ?_
 refine Ok.test (b:=(a0 == 2)) rfl (fun hb3 => ?_) (fun hb3 => ?_)
 ·replace H:=ifT H hb3
  refine Ok.seq ?_
  refine .rg [(2,(.v (.int .i32 128)))] [] ?_
  refine Ok.ret ?_
  obtain rfl:=Option.some.inj H
  exact⟨.inl rfl,⟨_,(.cons (.tmp rfl) .nil),rfl⟩,trivial⟩
 ·replace H:=ifF H hb3
  refine Ok.seq ?_
  refine .rg [(3,(.v (.int .i64 a0))),(6,(.v (.bool (a0 == 3))))] [] ?_
  refine Ok.test (b:=(a0 == 3)) rfl (fun hb2 => ?_) (fun hb2 => ?_)
  ·replace H:=ifT H hb2
   refine Ok.seq ?_
   refine .rg [(2,(.v (.int .i32 2048)))] [] ?_
   refine Ok.ret ?_
   obtain rfl:=Option.some.inj H
   exact⟨.inl rfl,⟨_,(.cons (.tmp rfl) .nil),rfl⟩,trivial⟩
  ·replace H:=ifF H hb2
   refine Ok.seq ?_
   refine .rg [(8,(.v (.bool (a0 == 4))))] [] ?_
   refine Ok.test (b:=(a0 == 4)) rfl (fun hb1 => ?_) (fun hb1 => ?_)
   ·replace H:=ifT H hb1
    refine Ok.seq ?_
    refine .rg [(2,(.v (.int .i32 65536)))] [] ?_
    refine Ok.ret ?_
    obtain rfl:=Option.some.inj H
    exact⟨.inl rfl,⟨_,(.cons (.tmp rfl) .nil),rfl⟩,trivial⟩
   ·replace H:=ifF H hb1
    refine Ok.skip ?_
    refine Ok.seq ?_
    refine .rg [(2,(.v (.int .i32 0)))] [] ?_
    refine Ok.ret ?_
    obtain rfl:=Option.some.inj H
    exact⟨.inl rfl,⟨_,(.cons (.tmp rfl) .nil),rfl⟩,trivial⟩
def utf_scalar (a0:Int):Option Bool:=some (((decide (a0 ≥ 0)) && (decide (a0 < 55296))) || ((decide (a0 ≥ 57344)) && (decide (a0 ≤ 1114111))))
theorem utf_scalar.ok {a0:Int} {r:Bool} (H:utf_scalar a0=some r):Vx.Fn Try.prog 64 [(.v (.int .i32 a0))] [] (.v (.bool r)) []:=by
 unfold utf_scalar at H
 refine Vx.Fn.of_okR Try.func64 rfl (Nat.le_of_ble_eq_true rfl) ?_
 refine Ok.seq ?_
 refine .rg [(0,(.v (.int .i32 a0)))] [] ?_
 refine Ok.seq ?_
 refine Ok.region (σ':=⟨[(2,(.v (.bool (((decide (a0 ≥ 0)) && (decide (a0 < 55296))) || ((decide (a0 ≥ 57344)) && (decide (a0 ≤ 1114111)))))))],[]⟩) ?_ ?_
 ·refine .rn 3 ?_
  refine OpsOk.consI rfl rfl rfl (.one rfl) rfl (fun hw1 => (VOk.g (VOk.mv (d:=(.v (.int .i32 a0))) rfl rfl))) ?_
  refine OpsOk.consI rfl rfl rfl (.one rfl) rfl (fun hw1 => (GOk.fr (fr':=[(6,(.v (.int .i32 a0)))]) ⟨DLe.of_eq (cT hw1).symm,trivial⟩ (VOk.g (VOk.arith (op:=.lss) (k:=.i32) (a:=a0) (b:=55296) rfl rfl rfl rfl)))) ?_
  refine .cv (VOk.to (VOk.pickI (b:=(decide (a0 ≥ 0))) (p:=(decide (a0 < 55296))) (q:=false) rfl rfl (fun hp2 => (cT (t_beq hp2))) (fun hp2 => rfl)) (pickAnd (decide (a0 ≥ 0)) (decide (a0 < 55296)))) rfl rfl ?_
  refine .rn 1 ?_
  refine OpsOk.consI rfl rfl rfl (.one rfl) rfl (fun hw3 => (VOk.g (VOk.mv (d:=(.v (.int .i32 a0))) rfl rfl))) ?_
  refine OpsOk.consI rfl rfl rfl (.one rfl) rfl (fun hw3 => (GOk.fr (fr':=[(10,(.v (.int .i32 a0)))]) ⟨DLe.of_eq (cT hw3).symm,trivial⟩ (VOk.g (VOk.arith (op:=.geq) (k:=.i32) (a:=a0) (b:=57344) rfl rfl rfl rfl)))) ?_
  refine OpsOk.consI rfl rfl rfl (.one rfl) rfl (fun hw3 => (GOk.fr (fr':=[(11,(.v (.bool (decide (a0 ≥ 57344)))))]) ⟨DLe.of_eq (cT hw3).symm,trivial⟩ (VOk.g (VOk.mv (d:=(.v (.bool (decide (a0 ≥ 57344))))) rfl rfl)))) ?_
  refine OpsOk.consI rfl rfl rfl (.two rfl) rfl (fun hw4 => (VOk.g (VOk.mv (d:=(.v (.int .i32 a0))) rfl rfl))) ?_
  refine OpsOk.consI rfl rfl rfl (.two rfl) rfl (fun hw4 => (GOk.fr (fr':=[(13,(.v (.int .i32 a0)))]) ⟨DLe.of_eq (cT hw4).symm,trivial⟩ (VOk.g (VOk.arith (op:=.leq) (k:=.i32) (a:=a0) (b:=1114111) rfl rfl rfl rfl)))) ?_
  refine OpsOk.consI rfl rfl rfl (.one rfl) rfl (fun hw3 => (VOk.g (VOk.to (VOk.pickI (b:=(decide (a0 ≥ 57344))) (p:=(decide (a0 ≤ 1114111))) (q:=false) rfl (cT hw3) (fun hp5 => (cT (and_i hw3 (t_beq hp5)))) (fun hp5 => rfl)) (pickAnd (decide (a0 ≥ 57344)) (decide (a0 ≤ 1114111)))))) ?_
  refine .cv (VOk.to (VOk.pickI (b:=((decide (a0 ≥ 0)) && (decide (a0 < 55296)))) (p:=true) (q:=((decide (a0 ≥ 57344)) && (decide (a0 ≤ 1114111)))) rfl rfl (fun hp6 => rfl) (fun hp6 => (cT (f_beq hp6)))) (pickOr ((decide (a0 ≥ 0)) && (decide (a0 < 55296))) ((decide (a0 ≥ 57344)) && (decide (a0 ≤ 1114111))))) rfl rfl ?_
  refine .rn 1 ?_
  exact .dn
 refine Ok.ret ?_
 obtain rfl:=Option.some.inj H
 exact⟨.inl rfl,⟨_,(.cons (.tmp rfl) .nil),rfl⟩,trivial⟩
def utf_Rune.l0 (k:Nat) (a0:Str) (a1:Int) (t4:Int × Int):Nat→Int→Int→Int→Option (Int × Int)
 | 0,_,_,_ => none
 | m15 + 1,x4_9,x42_11,x5_10 => (if (decide (x42_11 < ((bytesOfStr (sl a0 (IntKind.i64.wrap (a1 + 1)) (IntKind.i64.wrap (a1 + t4.1)))).length:Int)))=true then (if (0:Int) ≤ x42_11 ∧ x42_11 < ((bytesOfStr (sl a0 (IntKind.i64.wrap (a1 + 1)) (IntKind.i64.wrap (a1 + t4.1)))).length:Int) then (if ((((rd (bytesOfStr (sl a0 (IntKind.i64.wrap (a1 + 1)) (IntKind.i64.wrap (a1 + t4.1)))) x42_11)).fdiv (2 ^ min (Int.toNat 6) (IntKind.bits .u8))) != 2)=true then some (0,0) else utf_Rune.l0 k a0 a1 t4 m15 (bitOr .i32 (IntKind.i32.wrap (x4_9 * 2 ^ min (Int.toNat 6) (IntKind.bits .i32))) (IntKind.i32.wrap (bitAnd .u8 (rd (bytesOfStr (sl a0 (IntKind.i64.wrap (a1 + 1)) (IntKind.i64.wrap (a1 + t4.1)))) x42_11) 63))) (IntKind.i64.wrap (x42_11 + 1)) x5_10) else none) else ((utf_least x5_10).bind fun (t18:Int) => (((if ((decide (x4_9 < t18)) == false)=true then utf_scalar x4_9 else some default)).bind fun (t21:Bool) => (if ((decide (x4_9 < t18)) || (!t21))=true then some (0,0) else some (x4_9,x5_10)))))
def utf_Rune (k:Nat) (a0:Str) (a1:Int):Option (Int × Int):=(if ((decide (a1 < 0)) || (decide (a1 ≥ (a0.length:Int))))=true then some (0,0) else (if (0:Int) ≤ a1 ∧ a1 < (a0.length:Int) then ((utf_shape (bt a0 a1)).bind fun (t4:Int × Int) => (if ((t4.1 == 0) || (decide (t4.1 > (IntKind.i64.wrap ((a0.length:Int) - a1)))))=true then some (0,0) else (if (0:Int) ≤ (IntKind.i64.wrap (a1 + 1)) ∧ (IntKind.i64.wrap (a1 + 1)) ≤ (IntKind.i64.wrap (a1 + t4.1)) ∧ (IntKind.i64.wrap (a1 + t4.1)) ≤ (a0.length:Int) then utf_Rune.l0 k a0 a1 t4 k t4.2 0 t4.1 else none))) else none))
theorem utf_Rune.ok {k:Nat} {a0:Str} {a1:Int} {r:Int × Int} (H:utf_Rune k a0 a1=some r):Vx.Fn Try.prog 58 [(S a0),(.v (.int .i64 a1))] [] (.tup [(.v (.int .i32 r.1)),(.v (.int .i64 r.2))]) []:=by
 unfold utf_Rune at H
 refine Vx.Fn.of_okR Try.func58 rfl (Nat.le_of_ble_eq_true rfl) ?_
 refine Ok.seq ?_
 refine .rg [(0,(S a0)),(1,(.v (.int .i64 a1)))] [] ?_
 refine Ok.seq ?_
 refine Ok.seq ?_
 refine Ok.region (σ':=⟨[(0,(S a0)),(1,(.v (.int .i64 a1))),(15,(.v (.bool ((decide (a1 < 0)) || (decide (a1 ≥ (a0.length:Int)))))))],[]⟩) ?_ ?_
 ·refine .rn 3 ?_
  refine OpsOk.consI rfl rfl rfl (.one rfl) rfl (fun hw1 => (VOk.g (VOk.mv (d:=(.v (.int .i64 a1))) rfl rfl))) ?_
  refine OpsOk.consI rfl rfl rfl (.one rfl) rfl (fun hw1 => (VOk.g (VOk.mv (d:=(S a0)) rfl rfl))) ?_
  refine OpsOk.consI rfl rfl rfl (.one rfl) rfl (fun hw1 => (GOk.fr (fr':=[(12,(S a0))]) ⟨DLe.of_eq (cT hw1).symm,trivial⟩ (VOk.g (VOk.lenStr (s:=a0) rfl Try.underlying9 rfl)))) ?_
  refine OpsOk.consI rfl rfl rfl (.one rfl) rfl (fun hw1 => (GOk.fr (fr':=[(11,(.v (.int .i64 a1))),(13,(.v (.int .i64 (a0.length:Int))))]) ⟨DLe.of_eq (cT hw1).symm,DLe.of_eq (cT hw1).symm,trivial⟩ (VOk.g (VOk.arith (op:=.geq) (k:=.i64) (a:=a1) (b:=(a0.length:Int)) rfl rfl rfl rfl)))) ?_
  refine .cv (VOk.to (VOk.pickI (b:=(decide (a1 < 0))) (p:=true) (q:=(decide (a1 ≥ (a0.length:Int)))) rfl rfl (fun hp2 => rfl) (fun hp2 => (cT (f_beq hp2)))) (pickOr (decide (a1 < 0)) (decide (a1 ≥ (a0.length:Int))))) rfl rfl ?_
  exact .dn
 refine Ok.test (b:=((decide (a1 < 0)) || (decide (a1 ≥ (a0.length:Int))))) rfl (fun hb27 => ?_) (fun hb27 => ?_)
 ·replace H:=ifT H hb27
  refine Ok.seq ?_
  refine .rg [(4,(.v (.int .i32 0))),(5,(.v (.int .i64 0)))] [] ?_
  refine Ok.ret ?_
  obtain rfl:=Option.some.inj H
  exact⟨.inl rfl,⟨_,(.cons (.tmp rfl) (.cons (.tmp rfl) .nil)),rfl⟩,trivial⟩
 ·replace H:=ifF H hb27
  refine Ok.skip ?_
  refine Ok.seq ?_
  obtain⟨c3,H⟩:=assertE H
  obtain⟨t4,h5,H⟩:=bindE H
  refine Ok.region (σ':=⟨[(0,(S a0)),(1,(.v (.int .i64 a1))),(4,(.v (.int .i32 t4.2))),(5,(.v (.int .i64 t4.1)))],[]⟩) ?_ ?_
  ·refine .rn 2 ?_
   refine .cv (VOk.indexStr (s:=a0) (i:=a1) rfl Try.underlying9 rfl rfl c3) rfl rfl ?_
   refine .cg (GOk.call rfl rfl cl62 rfl (utf_shape.ok h5) rfl) rfl rfl ?_
   refine .rn 5 ?_
   exact .dn
  refine Ok.seq ?_
  refine Ok.seq ?_
  refine Ok.region (σ':=⟨[(0,(S a0)),(1,(.v (.int .i64 a1))),(4,(.v (.int .i32 t4.2))),(5,(.v (.int .i64 t4.1))),(32,(.v (.bool ((t4.1 == 0) || (decide (t4.1 > (IntKind.i64.wrap ((a0.length:Int) - a1))))))))],[]⟩) ?_ ?_
  ·refine .rn 3 ?_
   refine OpsOk.consI rfl rfl rfl (.one rfl) rfl (fun hw6 => (VOk.g (VOk.mv (d:=(.v (.int .i64 t4.1))) rfl rfl))) ?_
   refine OpsOk.consI rfl rfl rfl (.one rfl) rfl (fun hw6 => (VOk.g (VOk.mv (d:=(S a0)) rfl rfl))) ?_
   refine OpsOk.consI rfl rfl rfl (.one rfl) rfl (fun hw6 => (GOk.fr (fr':=[(27,(S a0))]) ⟨DLe.of_eq (cT hw6).symm,trivial⟩ (VOk.g (VOk.lenStr (s:=a0) rfl Try.underlying9 rfl)))) ?_
   refine OpsOk.consI rfl rfl rfl (.one rfl) rfl (fun hw6 => (VOk.g (VOk.mv (d:=(.v (.int .i64 a1))) rfl rfl))) ?_
   refine OpsOk.consI rfl rfl rfl (.one rfl) rfl (fun hw6 => (GOk.fr (fr':=[(28,(.v (.int .i64 (a0.length:Int)))),(29,(.v (.int .i64 a1)))]) ⟨DLe.of_eq (cT hw6).symm,DLe.of_eq (cT hw6).symm,trivial⟩ (VOk.g (VOk.arith (op:=.sub) (k:=.i64) (a:=(a0.length:Int)) (b:=a1) rfl rfl rfl rfl)))) ?_
   refine OpsOk.consI rfl rfl rfl (.one rfl) rfl (fun hw6 => (GOk.fr (fr':=[(26,(.v (.int .i64 t4.1))),(30,(.v (.int .i64 (IntKind.i64.wrap ((a0.length:Int) - a1)))))]) ⟨DLe.of_eq (cT hw6).symm,DLe.of_eq (cT hw6).symm,trivial⟩ (VOk.g (VOk.arith (op:=.gtr) (k:=.i64) (a:=t4.1) (b:=(IntKind.i64.wrap ((a0.length:Int) - a1))) rfl rfl rfl rfl)))) ?_
   refine .cv (VOk.to (VOk.pickI (b:=(t4.1 == 0)) (p:=true) (q:=(decide (t4.1 > (IntKind.i64.wrap ((a0.length:Int) - a1))))) rfl rfl (fun hp7 => rfl) (fun hp7 => (cT (f_beq hp7)))) (pickOr (t4.1 == 0) (decide (t4.1 > (IntKind.i64.wrap ((a0.length:Int) - a1)))))) rfl rfl ?_
   exact .dn
  refine Ok.test (b:=((t4.1 == 0) || (decide (t4.1 > (IntKind.i64.wrap ((a0.length:Int) - a1)))))) rfl (fun hb26 => ?_) (fun hb26 => ?_)
  ·replace H:=ifT H hb26
   refine Ok.seq ?_
   refine .rg [(4,(.v (.int .i32 0))),(5,(.v (.int .i64 0)))] [] ?_
   refine Ok.ret ?_
   obtain rfl:=Option.some.inj H
   exact⟨.inl rfl,⟨_,(.cons (.tmp rfl) (.cons (.tmp rfl) .nil)),rfl⟩,trivial⟩
  ·replace H:=ifF H hb26
   refine Ok.skip ?_
   refine Ok.seq ?_
   refine Ok.seq ?_
   obtain⟨c8,H⟩:=assertE H
   refine Ok.region (σ':=⟨[(4,(.v (.int .i32 t4.2))),(5,(.v (.int .i64 t4.1))),(40,(L 1 (eI .u8) (bytesOfStr (sl a0 (IntKind.i64.wrap (a1 + 1)) (IntKind.i64.wrap (a1 + t4.1)))))),(41,(.v (.int .i64 ((bytesOfStr (sl a0 (IntKind.i64.wrap (a1 + 1)) (IntKind.i64.wrap (a1 + t4.1)))).length:Int)))),(42,(.v (.int .i64 0)))],[]⟩) ?_ ?_
   ·refine .rn 6 ?_
    refine .cv (VOk.sliceStr (s:=a0) (l:=(IntKind.i64.wrap (a1 + 1))) (h:=(IntKind.i64.wrap (a1 + t4.1))) rfl Try.underlying9 rfl rfl rfl c8) rfl rfl ?_
    refine .cg (GOk.strBytes (s:=(sl a0 (IntKind.i64.wrap (a1 + 1)) (IntKind.i64.wrap (a1 + t4.1)))) rfl Try.underlying9 Try.underlying89 Try.underlying5 rfl) rfl rfl ?_
    refine .cv (VOk.lenL (e:=(eI .u8)) (xs:=(bytesOfStr (sl a0 (IntKind.i64.wrap (a1 + 1)) (IntKind.i64.wrap (a1 + t4.1))))) rfl Try.underlying89 rfl) rfl rfl ?_
    refine .rn 1 ?_
    exact .dn
   refine Ok.block ?_
   refine Ok.loop (fun m15 σ => ∃ (x4_9:Int) (x42_11:Int) (x5_10:Int),σ=⟨[(4,(.v (.int .i32 x4_9))),(5,(.v (.int .i64 x5_10))),(40,(L 1 (eI .u8) (bytesOfStr (sl a0 (IntKind.i64.wrap (a1 + 1)) (IntKind.i64.wrap (a1 + t4.1)))))),(41,(.v (.int .i64 ((bytesOfStr (sl a0 (IntKind.i64.wrap (a1 + 1)) (IntKind.i64.wrap (a1 + t4.1)))).length:Int)))),(42,(.v (.int .i64 x42_11)))],[]⟩ ∧ utf_Rune.l0 k a0 a1 t4 m15 x4_9 x42_11 x5_10=some r) k ⟨t4.2,0,t4.1,rfl,H⟩ ?_
   rintro m15 σ ⟨x4_9,x42_11,x5_10,rfl,H⟩
   cases m15 with
   | zero => exact absurd H (by simp [utf_Rune.l0])
   | succ m15 =>
    unfold utf_Rune.l0 at H
    refine Ok.seq ?_
    refine .rg [(4,(.v (.int .i32 x4_9))),(5,(.v (.int .i64 x5_10))),(40,(L 1 (eI .u8) (bytesOfStr (sl a0 (IntKind.i64.wrap (a1 + 1)) (IntKind.i64.wrap (a1 + t4.1)))))),(41,(.v (.int .i64 ((bytesOfStr (sl a0 (IntKind.i64.wrap (a1 + 1)) (IntKind.i64.wrap (a1 + t4.1)))).length:Int)))),(42,(.v (.int .i64 x42_11))),(43,(.v (.bool (decide (x42_11 < ((bytesOfStr (sl a0 (IntKind.i64.wrap (a1 + 1)) (IntKind.i64.wrap (a1 + t4.1)))).length:Int))))))] [] ?_
    refine Ok.seq ?_
    refine Ok.test (b:=(decide (x42_11 < ((bytesOfStr (sl a0 (IntKind.i64.wrap (a1 + 1)) (IntKind.i64.wrap (a1 + t4.1)))).length:Int)))) rfl (fun hb25 => ?_) (fun hb25 => ?_)
    ·replace H:=ifT H hb25
     refine Ok.skip ?_
     refine Ok.seq ?_
     refine Ok.block ?_
     refine Ok.seq ?_
     obtain⟨c16,H⟩:=assertE H
     refine Ok.region (σ':=⟨[(4,(.v (.int .i32 x4_9))),(5,(.v (.int .i64 x5_10))),(7,(.v (.int .u8 (rd (bytesOfStr (sl a0 (IntKind.i64.wrap (a1 + 1)) (IntKind.i64.wrap (a1 + t4.1)))) x42_11)))),(40,(L 1 (eI .u8) (bytesOfStr (sl a0 (IntKind.i64.wrap (a1 + 1)) (IntKind.i64.wrap (a1 + t4.1)))))),(41,(.v (.int .i64 ((bytesOfStr (sl a0 (IntKind.i64.wrap (a1 + 1)) (IntKind.i64.wrap (a1 + t4.1)))).length:Int)))),(42,(.v (.int .i64 x42_11)))],[]⟩) ?_ ?_
     ·refine .cv (VOk.indexL (sz:=1) (e:=(eI .u8)) (xs:=(bytesOfStr (sl a0 (IntKind.i64.wrap (a1 + 1)) (IntKind.i64.wrap (a1 + t4.1))))) (i:=x42_11) rfl Try.underlying89 sz5 rfl rfl c16) rfl rfl ?_
      refine .rn 2 ?_
      exact .dn
     refine Ok.seq ?_
     refine Ok.seq ?_
     refine Ok.region (σ':=⟨[(4,(.v (.int .i32 x4_9))),(5,(.v (.int .i64 x5_10))),(7,(.v (.int .u8 (rd (bytesOfStr (sl a0 (IntKind.i64.wrap (a1 + 1)) (IntKind.i64.wrap (a1 + t4.1)))) x42_11)))),(40,(L 1 (eI .u8) (bytesOfStr (sl a0 (IntKind.i64.wrap (a1 + 1)) (IntKind.i64.wrap (a1 + t4.1)))))),(41,(.v (.int .i64 ((bytesOfStr (sl a0 (IntKind.i64.wrap (a1 + 1)) (IntKind.i64.wrap (a1 + t4.1)))).length:Int)))),(42,(.v (.int .i64 x42_11))),(48,(.v (.bool ((((rd (bytesOfStr (sl a0 (IntKind.i64.wrap (a1 + 1)) (IntKind.i64.wrap (a1 + t4.1)))) x42_11)).fdiv (2 ^ min (Int.toNat 6) (IntKind.bits .u8))) != 2))))],[]⟩) ?_ ?_
     ·refine .rn 1 ?_
      refine .cv (VOk.shr (a:=(rd (bytesOfStr (sl a0 (IntKind.i64.wrap (a1 + 1)) (IntKind.i64.wrap (a1 + t4.1)))) x42_11)) (b:=6) rfl rfl rfl (by decide)) rfl rfl ?_
      refine .rn 1 ?_
      exact .dn
     refine Ok.test (b:=((((rd (bytesOfStr (sl a0 (IntKind.i64.wrap (a1 + 1)) (IntKind.i64.wrap (a1 + t4.1)))) x42_11)).fdiv (2 ^ min (Int.toNat 6) (IntKind.bits .u8))) != 2)) rfl (fun hb17 => ?_) (fun hb17 => ?_)
     ·replace H:=ifT H hb17
      refine Ok.seq ?_
      refine .rg [(4,(.v (.int .i32 0))),(5,(.v (.int .i64 0)))] [] ?_
      refine Ok.ret ?_
      obtain rfl:=Option.some.inj H
      exact⟨.inl rfl,⟨_,(.cons (.tmp rfl) (.cons (.tmp rfl) .nil)),rfl⟩,trivial⟩
     ·replace H:=ifF H hb17
      refine Ok.skip ?_
      refine Ok.region (σ':=⟨[(4,(.v (.int .i32 (bitOr .i32 (IntKind.i32.wrap (x4_9 * 2 ^ min (Int.toNat 6) (IntKind.bits .i32))) (IntKind.i32.wrap (bitAnd .u8 (rd (bytesOfStr (sl a0 (IntKind.i64.wrap (a1 + 1)) (IntKind.i64.wrap (a1 + t4.1)))) x42_11) 63)))))),(5,(.v (.int .i64 x5_10))),(40,(L 1 (eI .u8) (bytesOfStr (sl a0 (IntKind.i64.wrap (a1 + 1)) (IntKind.i64.wrap (a1 + t4.1)))))),(41,(.v (.int .i64 ((bytesOfStr (sl a0 (IntKind.i64.wrap (a1 + 1)) (IntKind.i64.wrap (a1 + t4.1)))).length:Int)))),(42,(.v (.int .i64 x42_11)))],[]⟩) ?_ ?_
      ·refine .rn 1 ?_
       refine .cv (VOk.shl (a:=x4_9) (b:=6) rfl rfl rfl (by decide)) rfl rfl ?_
       refine .rn 5 ?_
       exact .dn
      refine .rg [(4,(.v (.int .i32 (bitOr .i32 (IntKind.i32.wrap (x4_9 * 2 ^ min (Int.toNat 6) (IntKind.bits .i32))) (IntKind.i32.wrap (bitAnd .u8 (rd (bytesOfStr (sl a0 (IntKind.i64.wrap (a1 + 1)) (IntKind.i64.wrap (a1 + t4.1)))) x42_11) 63)))))),(5,(.v (.int .i64 x5_10))),(40,(L 1 (eI .u8) (bytesOfStr (sl a0 (IntKind.i64.wrap (a1 + 1)) (IntKind.i64.wrap (a1 + t4.1)))))),(41,(.v (.int .i64 ((bytesOfStr (sl a0 (IntKind.i64.wrap (a1 + 1)) (IntKind.i64.wrap (a1 + t4.1)))).length:Int)))),(42,(.v (.int .i64 (IntKind.i64.wrap (x42_11 + 1)))))] [] ?_
      exact⟨m15,Nat.lt_succ_self m15,(bitOr .i32 (IntKind.i32.wrap (x4_9 * 2 ^ min (Int.toNat 6) (IntKind.bits .i32))) (IntKind.i32.wrap (bitAnd .u8 (rd (bytesOfStr (sl a0 (IntKind.i64.wrap (a1 + 1)) (IntKind.i64.wrap (a1 + t4.1)))) x42_11) 63))),(IntKind.i64.wrap (x42_11 + 1)),x5_10,rfl,H⟩
    ·replace H:=ifF H hb25
     refine Ok.exit ?_
     refine Ok.seq ?_
     refine Ok.seq ?_
     obtain⟨t18,h19,H⟩:=bindE H
     obtain⟨t21,h22,H⟩:=bindE H
     refine Ok.region (σ':=⟨[(4,(.v (.int .i32 x4_9))),(5,(.v (.int .i64 x5_10))),(64,(.v (.bool ((decide (x4_9 < t18)) || (!t21)))))],[]⟩) ?_ ?_
     ·refine .rn 2 ?_
      refine .cg (GOk.call rfl rfl cl63 rfl (utf_least.ok h19) rfl) rfl rfl ?_
      refine .rn 2 ?_
      refine OpsOk.consI rfl rfl rfl (.one rfl) rfl (fun hw20 => (VOk.g (VOk.mv (d:=(.v (.int .i32 x4_9))) rfl rfl))) ?_
      refine OpsOk.consI rfl rfl rfl (.one rfl) rfl (fun hw20 => (GOk.fr (fr':=[(61,(.v (.int .i32 x4_9)))]) ⟨DLe.of_eq (cT hw20).symm,trivial⟩ (GOk.call rfl rfl cl64 rfl (utf_scalar.ok (ifT h22 hw20)) rfl))) ?_
      refine OpsOk.consI rfl rfl rfl (.one rfl) rfl (fun hw20 => (GOk.fr (fr':=[(62,(.v (.bool t21)))]) ⟨DLe.of_eq (cT hw20).symm,trivial⟩ (VOk.g (VOk.not (b:=t21) rfl rfl)))) ?_
      refine .cv (VOk.to (VOk.pickI (b:=(decide (x4_9 < t18))) (p:=true) (q:=(!t21)) rfl rfl (fun hp23 => rfl) (fun hp23 => (cT (f_beq hp23)))) (pickOr (decide (x4_9 < t18)) (!t21))) rfl rfl ?_
      exact .dn
     refine Ok.test (b:=((decide (x4_9 < t18)) || (!t21))) rfl (fun hb24 => ?_) (fun hb24 => ?_)
     ·replace H:=ifT H hb24
      refine Ok.seq ?_
      refine .rg [(4,(.v (.int .i32 0))),(5,(.v (.int .i64 0)))] [] ?_
      refine Ok.ret ?_
      obtain rfl:=Option.some.inj H
      exact⟨.inl rfl,⟨_,(.cons (.tmp rfl) (.cons (.tmp rfl) .nil)),rfl⟩,trivial⟩
     ·replace H:=ifF H hb24
      refine Ok.skip ?_
      refine Ok.seq ?_
      refine .rg [(4,(.v (.int .i32 x4_9))),(5,(.v (.int .i64 x5_10)))] [] ?_
      refine Ok.ret ?_
      obtain rfl:=Option.some.inj H
      exact⟨.inl rfl,⟨_,(.cons (.tmp rfl) (.cons (.tmp rfl) .nil)),rfl⟩,trivial⟩
def utf_within.l0 (k:Nat) (a0:Int) (a1:List T_utf_span):Nat→Int→Option Bool
 | 0,_ => none
 | m3 + 1,x9_1 => (if (decide (x9_1 < (a1.length:Int)))=true then (if (0:Int) ≤ x9_1 ∧ x9_1 < (a1.length:Int) then (if ((decide (a0 ≥ ((rd a1 x9_1).From_))) && (decide (a0 ≤ ((rd a1 x9_1).To_))))=true then some true else utf_within.l0 k a0 a1 m3 (IntKind.i64.wrap (x9_1 + 1))) else none) else some false)
def utf_within (k:Nat) (a0:Int) (a1:List T_utf_span):Option Bool:=utf_within.l0 k a0 a1 k 0
theorem utf_within.ok {k:Nat} {a0:Int} {a1:List T_utf_span} {r:Bool} (H:utf_within k a0 a1=some r):Vx.Fn Try.prog 65 [(.v (.int .i32 a0)),(L 2 e_utf_span a1)] [] (.v (.bool r)) []:=by
 unfold utf_within at H
 refine Vx.Fn.of_okR Try.func65 rfl (Nat.le_of_ble_eq_true rfl) ?_
 refine Ok.seq ?_
 refine .rg [(0,(.v (.int .i32 a0))),(1,(L 2 e_utf_span a1))] [] ?_
 refine Ok.seq ?_
 refine Ok.seq ?_
 refine Ok.region (σ':=⟨[(0,(.v (.int .i32 a0))),(7,(L 2 e_utf_span a1)),(8,(.v (.int .i64 (a1.length:Int)))),(9,(.v (.int .i64 0)))],[]⟩) ?_ ?_
 ·refine .rn 1 ?_
  refine .cv (VOk.lenL (e:=e_utf_span) (xs:=a1) rfl Try.underlying96 rfl) rfl rfl ?_
  refine .rn 1 ?_
  exact .dn
 refine Ok.block ?_
 refine Ok.loop (fun m3 σ => ∃ (x9_1:Int),σ=⟨[(0,(.v (.int .i32 a0))),(7,(L 2 e_utf_span a1)),(8,(.v (.int .i64 (a1.length:Int)))),(9,(.v (.int .i64 x9_1)))],[]⟩ ∧ utf_within.l0 k a0 a1 m3 x9_1=some r) k ⟨0,rfl,H⟩ ?_
 rintro m3 σ ⟨x9_1,rfl,H⟩
 cases m3 with
 | zero => exact absurd H (by simp [utf_within.l0])
 | succ m3 =>
  unfold utf_within.l0 at H
  refine Ok.seq ?_
  refine .rg [(0,(.v (.int .i32 a0))),(7,(L 2 e_utf_span a1)),(8,(.v (.int .i64 (a1.length:Int)))),(9,(.v (.int .i64 x9_1))),(10,(.v (.bool (decide (x9_1 < (a1.length:Int))))))] [] ?_
  refine Ok.seq ?_
  refine Ok.test (b:=(decide (x9_1 < (a1.length:Int)))) rfl (fun hb8 => ?_) (fun hb8 => ?_)
  ·replace H:=ifT H hb8
   refine Ok.skip ?_
   refine Ok.seq ?_
   refine Ok.block ?_
   refine Ok.seq ?_
   obtain⟨c4,H⟩:=assertE H
   refine Ok.region (σ':=⟨[(0,(.v (.int .i32 a0))),(6,(.bref 6 0)),(7,(L 2 e_utf_span a1)),(8,(.v (.int .i64 (a1.length:Int)))),(9,(.v (.int .i64 x9_1)))],[(6,(.box .ex [(.v (.int .i32 ((rd a1 x9_1).From_))),(.v (.int .i32 ((rd a1 x9_1).To_)))]))]⟩) ?_ ?_
   ·refine .cv (VOk.indexL (sz:=2) (e:=e_utf_span) (xs:=a1) (i:=x9_1) rfl Try.underlying96 sz94 rfl rfl c4) rfl rfl ?_
    refine .rn 3 ?_
    exact .dn
   refine Ok.seq ?_
   refine Ok.region (σ':=⟨[(0,(.v (.int .i32 a0))),(7,(L 2 e_utf_span a1)),(8,(.v (.int .i64 (a1.length:Int)))),(9,(.v (.int .i64 x9_1))),(22,(.v (.bool ((decide (a0 ≥ ((rd a1 x9_1).From_))) && (decide (a0 ≤ ((rd a1 x9_1).To_)))))))],[]⟩) ?_ ?_
   ·refine .rn 5 ?_
    refine OpsOk.consI rfl rfl rfl (.one rfl) rfl (fun hw5 => (VOk.g (VOk.mv (d:=(.v (.int .i32 a0))) rfl rfl))) ?_
    refine OpsOk.consI rfl rfl rfl (.one rfl) rfl (fun hw5 => (VOk.g (VOk.to (VOk.fieldB rfl Try.underlying94 rfl sz21 rfl rfl) rfl))) ?_
    refine OpsOk.consI rfl rfl rfl (.one rfl) rfl (fun hw5 => (GOk.fr (fr':=[(19,(.bref 6 1))]) ⟨DLe.of_eq (cT hw5).symm,trivial⟩ (VOk.g (VOk.loadB (d:=(.v (.int .i32 ((rd a1 x9_1).To_)))) rfl Try.underlying21 rfl rfl rfl rfl)))) ?_
    refine OpsOk.consI rfl rfl rfl (.one rfl) rfl (fun hw5 => (GOk.fr (fr':=[(18,(.v (.int .i32 a0))),(20,(.v (.int .i32 ((rd a1 x9_1).To_))))]) ⟨DLe.of_eq (cT hw5).symm,DLe.of_eq (cT hw5).symm,trivial⟩ (VOk.g (VOk.arith (op:=.leq) (k:=.i32) (a:=a0) (b:=(rd a1 x9_1).To_) rfl rfl rfl rfl)))) ?_
    refine .cv (VOk.to (VOk.pickI (b:=(decide (a0 ≥ ((rd a1 x9_1).From_)))) (p:=(decide (a0 ≤ ((rd a1 x9_1).To_)))) (q:=false) rfl rfl (fun hp6 => (cT (t_beq hp6))) (fun hp6 => rfl)) (pickAnd (decide (a0 ≥ ((rd a1 x9_1).From_))) (decide (a0 ≤ ((rd a1 x9_1).To_))))) rfl rfl ?_
    exact .dn
   refine Ok.test (b:=((decide (a0 ≥ ((rd a1 x9_1).From_))) && (decide (a0 ≤ ((rd a1 x9_1).To_))))) rfl (fun hb7 => ?_) (fun hb7 => ?_)
   ·replace H:=ifT H hb7
    refine Ok.seq ?_
    refine .rg [(4,(.v (.bool true)))] [] ?_
    refine Ok.ret ?_
    obtain rfl:=Option.some.inj H
    exact⟨.inl rfl,⟨_,(.cons (.tmp rfl) .nil),rfl⟩,trivial⟩
   ·replace H:=ifF H hb7
    refine Ok.skip ?_
    refine .rg [(0,(.v (.int .i32 a0))),(7,(L 2 e_utf_span a1)),(8,(.v (.int .i64 (a1.length:Int)))),(9,(.v (.int .i64 (IntKind.i64.wrap (x9_1 + 1)))))] [] ?_
    exact⟨m3,Nat.lt_succ_self m3,(IntKind.i64.wrap (x9_1 + 1)),rfl,H⟩
  ·replace H:=ifF H hb8
   refine Ok.exit ?_
   refine Ok.seq ?_
   refine .rg [(4,(.v (.bool false)))] [] ?_
   refine Ok.ret ?_
   obtain rfl:=Option.some.inj H
   exact⟨.inl rfl,⟨_,(.cons (.tmp rfl) .nil),rfl⟩,trivial⟩
def utf_Char (k:Nat) (a0:Int):Option Bool:=((utf_within k a0 ([(T_utf_span.mk 9 10),(T_utf_span.mk 13 13),(T_utf_span.mk 32 55295),(T_utf_span.mk 57344 65533),(T_utf_span.mk 65536 1114111)]:List T_utf_span)).bind fun (t1:Bool) => some t1)
theorem utf_Char.ok {k:Nat} {a0:Int} {r:Bool} (H:utf_Char k a0=some r):Vx.Fn Try.prog 59 [(.v (.int .i32 a0))] [] (.v (.bool r)) []:=by
 unfold utf_Char at H
 refine Vx.Fn.of_okR Try.func59 rfl (Nat.le_of_ble_eq_true rfl) ?_
 refine Ok.seq ?_
 refine .rg [(0,(.v (.int .i32 a0)))] [] ?_
 refine Ok.seq ?_
 obtain⟨t1,h2,H⟩:=bindE H
 refine Ok.region (σ':=⟨[(2,(.v (.bool t1)))],[]⟩) ?_ ?_
 ·refine .rn 1 ?_
  refine .cv (VOk.to (d':=(.agg (e_utf_span (T_utf_span.mk 9 10)))) (.build [none,none] [(0,1),(1,1)] rfl Try.underlying94 (fa94 Try.underlying94) zo94 rfl rfl) rfl) rfl rfl ?_
  refine .cv (VOk.to (d':=(.agg (e_utf_span (T_utf_span.mk 13 13)))) (.build [none,none] [(0,1),(1,1)] rfl Try.underlying94 (fa94 Try.underlying94) zo94 rfl rfl) rfl) rfl rfl ?_
  refine .cv (VOk.to (d':=(.agg (e_utf_span (T_utf_span.mk 32 55295)))) (.build [none,none] [(0,1),(1,1)] rfl Try.underlying94 (fa94 Try.underlying94) zo94 rfl rfl) rfl) rfl rfl ?_
  refine .cv (VOk.to (d':=(.agg (e_utf_span (T_utf_span.mk 57344 65533)))) (.build [none,none] [(0,1),(1,1)] rfl Try.underlying94 (fa94 Try.underlying94) zo94 rfl rfl) rfl) rfl rfl ?_
  refine .cv (VOk.to (d':=(.agg (e_utf_span (T_utf_span.mk 65536 1114111)))) (.build [none,none] [(0,1),(1,1)] rfl Try.underlying94 (fa94 Try.underlying94) zo94 rfl rfl) rfl) rfl rfl ?_
  refine .cg (GOk.to (d':=(L 2 e_utf_span ([(T_utf_span.mk 9 10),(T_utf_span.mk 13 13),(T_utf_span.mk 32 55295),(T_utf_span.mk 57344 65533),(T_utf_span.mk 65536 1114111)]:List T_utf_span))) (GOk.lit rfl Try.underlying96 sz94 zs94 rfl rfl rfl rfl) rfl) rfl rfl ?_
  refine .cg (GOk.call rfl rfl cl65 rfl (utf_within.ok h2) rfl) rfl rfl ?_
  refine .rn 1 ?_
  exact .dn
 refine Ok.ret ?_
 obtain rfl:=Option.some.inj H
 exact⟨.inl rfl,⟨_,(.cons (.tmp rfl) .nil),rfl⟩,trivial⟩
def tree_signs.l0 (k:Nat) (a0:Str):Nat→Int→Option Bool
 | 0,_ => none
 | m3 + 1,x3_1 => (if (decide (x3_1 < (a0.length:Int)))=true then ((utf_Rune k a0 x3_1).bind fun (t4:Int × Int) => (((if ((t4.2 == 0) == false)=true then utf_Char k t4.1 else some default)).bind fun (t7:Bool) => (if ((t4.2 == 0) || (!t7))=true then some false else tree_signs.l0 k a0 m3 (IntKind.i64.wrap (x3_1 + t4.2))))) else some true)
def tree_signs (k:Nat) (a0:Str):Option Bool:=tree_signs.l0 k a0 k 0
theorem tree_signs.ok {k:Nat} {a0:Str} {r:Bool} (H:tree_signs k a0=some r):Vx.Fn Try.prog 47 [(S a0)] [] (.v (.bool r)) []:=by
 unfold tree_signs at H
 refine Vx.Fn.of_okR Try.func47 rfl (Nat.le_of_ble_eq_true rfl) ?_
 refine Ok.seq ?_
 refine .rg [(0,(S a0))] [] ?_
 refine Ok.seq ?_
 refine Ok.seq ?_
 refine .rg [(0,(S a0)),(3,(.v (.int .i64 0)))] [] ?_
 refine Ok.block ?_
 refine Ok.loop (fun m3 σ => ∃ (x3_1:Int),σ=⟨[(0,(S a0)),(3,(.v (.int .i64 x3_1)))],[]⟩ ∧ tree_signs.l0 k a0 m3 x3_1=some r) k ⟨0,rfl,H⟩ ?_
 rintro m3 σ ⟨x3_1,rfl,H⟩
 cases m3 with
 | zero => exact absurd H (by simp [tree_signs.l0])
 | succ m3 =>
  unfold tree_signs.l0 at H
  refine Ok.seq ?_
  refine Ok.seq ?_
  refine .rg [(0,(S a0)),(3,(.v (.int .i64 x3_1))),(9,(.v (.bool (decide (x3_1 < (a0.length:Int))))))] [] ?_
  refine Ok.test (b:=(decide (x3_1 < (a0.length:Int)))) rfl (fun hb11 => ?_) (fun hb11 => ?_)
  ·replace H:=ifT H hb11
   refine Ok.skip ?_
   refine Ok.block ?_
   refine Ok.seq ?_
   obtain⟨t4,h5,H⟩:=bindE H
   refine Ok.region (σ':=⟨[(0,(S a0)),(3,(.v (.int .i64 x3_1))),(4,(.v (.int .i32 t4.1))),(5,(.v (.int .i64 t4.2)))],[]⟩) ?_ ?_
   ·refine .rn 2 ?_
    refine .cg (GOk.call rfl rfl cl58 rfl (utf_Rune.ok h5) rfl) rfl rfl ?_
    refine .rn 5 ?_
    exact .dn
   refine Ok.seq ?_
   refine Ok.seq ?_
   obtain⟨t7,h8,H⟩:=bindE H
   refine Ok.region (σ':=⟨[(0,(S a0)),(3,(.v (.int .i64 x3_1))),(5,(.v (.int .i64 t4.2))),(22,(.v (.bool ((t4.2 == 0) || (!t7)))))],[]⟩) ?_ ?_
   ·refine .rn 3 ?_
    refine OpsOk.consI rfl rfl rfl (.one rfl) rfl (fun hw6 => (VOk.g (VOk.mv (d:=(.v (.int .i32 t4.1))) rfl rfl))) ?_
    refine OpsOk.consI rfl rfl rfl (.one rfl) rfl (fun hw6 => (GOk.fr (fr':=[(19,(.v (.int .i32 t4.1)))]) ⟨DLe.of_eq (cT hw6).symm,trivial⟩ (GOk.call rfl rfl cl59 rfl (utf_Char.ok (ifT h8 hw6)) rfl))) ?_
    refine OpsOk.consI rfl rfl rfl (.one rfl) rfl (fun hw6 => (GOk.fr (fr':=[(20,(.v (.bool t7)))]) ⟨DLe.of_eq (cT hw6).symm,trivial⟩ (VOk.g (VOk.not (b:=t7) rfl rfl)))) ?_
    refine .cv (VOk.to (VOk.pickI (b:=(t4.2 == 0)) (p:=true) (q:=(!t7)) rfl rfl (fun hp9 => rfl) (fun hp9 => (cT (f_beq hp9)))) (pickOr (t4.2 == 0) (!t7))) rfl rfl ?_
    exact .dn
   refine Ok.test (b:=((t4.2 == 0) || (!t7))) rfl (fun hb10 => ?_) (fun hb10 => ?_)
   ·replace H:=ifT H hb10
    refine Ok.seq ?_
    refine .rg [(2,(.v (.bool false)))] [] ?_
    refine Ok.ret ?_
    obtain rfl:=Option.some.inj H
    exact⟨.inl rfl,⟨_,(.cons (.tmp rfl) .nil),rfl⟩,trivial⟩
   ·replace H:=ifF H hb10
    refine Ok.skip ?_
    refine .rg [(0,(S a0)),(3,(.v (.int .i64 (IntKind.i64.wrap (x3_1 + t4.2)))))] [] ?_
    exact⟨m3,Nat.lt_succ_self m3,(IntKind.i64.wrap (x3_1 + t4.2)),rfl,H⟩
  ·replace H:=ifF H hb11
   refine Ok.exit ?_
   refine Ok.seq ?_
   refine .rg [(2,(.v (.bool true)))] [] ?_
   refine Ok.ret ?_
   obtain rfl:=Option.some.inj H
   exact⟨.inl rfl,⟨_,(.cons (.tmp rfl) .nil),rfl⟩,trivial⟩
def utf_Start (k:Nat) (a0:Int):Option Bool:=((utf_within k a0 ([(T_utf_span.mk 65 90),(T_utf_span.mk 97 122),(T_utf_span.mk 95 95),(T_utf_span.mk 192 214),(T_utf_span.mk 216 246),(T_utf_span.mk 248 767),(T_utf_span.mk 880 893),(T_utf_span.mk 895 8191),(T_utf_span.mk 8204 8205),(T_utf_span.mk 8304 8591),(T_utf_span.mk 11264 12271),(T_utf_span.mk 12289 55295),(T_utf_span.mk 63744 64975),(T_utf_span.mk 65008 65533),(T_utf_span.mk 65536 983039)]:List T_utf_span)).bind fun (t1:Bool) => some t1)
theorem utf_Start.ok {k:Nat} {a0:Int} {r:Bool} (H:utf_Start k a0=some r):Vx.Fn Try.prog 66 [(.v (.int .i32 a0))] [] (.v (.bool r)) []:=by
 unfold utf_Start at H
 refine Vx.Fn.of_okR Try.func66 rfl (Nat.le_of_ble_eq_true rfl) ?_
 refine Ok.seq ?_
 refine .rg [(0,(.v (.int .i32 a0)))] [] ?_
 refine Ok.seq ?_
 obtain⟨t1,h2,H⟩:=bindE H
 refine Ok.region (σ':=⟨[(2,(.v (.bool t1)))],[]⟩) ?_ ?_
 ·refine .rn 1 ?_
  refine .cv (VOk.to (d':=(.agg (e_utf_span (T_utf_span.mk 65 90)))) (.build [none,none] [(0,1),(1,1)] rfl Try.underlying94 (fa94 Try.underlying94) zo94 rfl rfl) rfl) rfl rfl ?_
  refine .cv (VOk.to (d':=(.agg (e_utf_span (T_utf_span.mk 97 122)))) (.build [none,none] [(0,1),(1,1)] rfl Try.underlying94 (fa94 Try.underlying94) zo94 rfl rfl) rfl) rfl rfl ?_
  refine .cv (VOk.to (d':=(.agg (e_utf_span (T_utf_span.mk 95 95)))) (.build [none,none] [(0,1),(1,1)] rfl Try.underlying94 (fa94 Try.underlying94) zo94 rfl rfl) rfl) rfl rfl ?_
  refine .cv (VOk.to (d':=(.agg (e_utf_span (T_utf_span.mk 192 214)))) (.build [none,none] [(0,1),(1,1)] rfl Try.underlying94 (fa94 Try.underlying94) zo94 rfl rfl) rfl) rfl rfl ?_
  refine .cv (VOk.to (d':=(.agg (e_utf_span (T_utf_span.mk 216 246)))) (.build [none,none] [(0,1),(1,1)] rfl Try.underlying94 (fa94 Try.underlying94) zo94 rfl rfl) rfl) rfl rfl ?_
  refine .cv (VOk.to (d':=(.agg (e_utf_span (T_utf_span.mk 248 767)))) (.build [none,none] [(0,1),(1,1)] rfl Try.underlying94 (fa94 Try.underlying94) zo94 rfl rfl) rfl) rfl rfl ?_
  refine .cv (VOk.to (d':=(.agg (e_utf_span (T_utf_span.mk 880 893)))) (.build [none,none] [(0,1),(1,1)] rfl Try.underlying94 (fa94 Try.underlying94) zo94 rfl rfl) rfl) rfl rfl ?_
  refine .cv (VOk.to (d':=(.agg (e_utf_span (T_utf_span.mk 895 8191)))) (.build [none,none] [(0,1),(1,1)] rfl Try.underlying94 (fa94 Try.underlying94) zo94 rfl rfl) rfl) rfl rfl ?_
  refine .cv (VOk.to (d':=(.agg (e_utf_span (T_utf_span.mk 8204 8205)))) (.build [none,none] [(0,1),(1,1)] rfl Try.underlying94 (fa94 Try.underlying94) zo94 rfl rfl) rfl) rfl rfl ?_
  refine .cv (VOk.to (d':=(.agg (e_utf_span (T_utf_span.mk 8304 8591)))) (.build [none,none] [(0,1),(1,1)] rfl Try.underlying94 (fa94 Try.underlying94) zo94 rfl rfl) rfl) rfl rfl ?_
  refine .cv (VOk.to (d':=(.agg (e_utf_span (T_utf_span.mk 11264 12271)))) (.build [none,none] [(0,1),(1,1)] rfl Try.underlying94 (fa94 Try.underlying94) zo94 rfl rfl) rfl) rfl rfl ?_
  refine .cv (VOk.to (d':=(.agg (e_utf_span (T_utf_span.mk 12289 55295)))) (.build [none,none] [(0,1),(1,1)] rfl Try.underlying94 (fa94 Try.underlying94) zo94 rfl rfl) rfl) rfl rfl ?_
  refine .cv (VOk.to (d':=(.agg (e_utf_span (T_utf_span.mk 63744 64975)))) (.build [none,none] [(0,1),(1,1)] rfl Try.underlying94 (fa94 Try.underlying94) zo94 rfl rfl) rfl) rfl rfl ?_
  refine .cv (VOk.to (d':=(.agg (e_utf_span (T_utf_span.mk 65008 65533)))) (.build [none,none] [(0,1),(1,1)] rfl Try.underlying94 (fa94 Try.underlying94) zo94 rfl rfl) rfl) rfl rfl ?_
  refine .cv (VOk.to (d':=(.agg (e_utf_span (T_utf_span.mk 65536 983039)))) (.build [none,none] [(0,1),(1,1)] rfl Try.underlying94 (fa94 Try.underlying94) zo94 rfl rfl) rfl) rfl rfl ?_
  refine .cg (GOk.to (d':=(L 2 e_utf_span ([(T_utf_span.mk 65 90),(T_utf_span.mk 97 122),(T_utf_span.mk 95 95),(T_utf_span.mk 192 214),(T_utf_span.mk 216 246),(T_utf_span.mk 248 767),(T_utf_span.mk 880 893),(T_utf_span.mk 895 8191),(T_utf_span.mk 8204 8205),(T_utf_span.mk 8304 8591),(T_utf_span.mk 11264 12271),(T_utf_span.mk 12289 55295),(T_utf_span.mk 63744 64975),(T_utf_span.mk 65008 65533),(T_utf_span.mk 65536 983039)]:List T_utf_span))) (GOk.lit rfl Try.underlying96 sz94 zs94 rfl rfl rfl rfl) rfl) rfl rfl ?_
  refine .cg (GOk.call rfl rfl cl65 rfl (utf_within.ok h2) rfl) rfl rfl ?_
  refine .rn 1 ?_
  exact .dn
 refine Ok.ret ?_
 obtain rfl:=Option.some.inj H
 exact⟨.inl rfl,⟨_,(.cons (.tmp rfl) .nil),rfl⟩,trivial⟩
def utf_Part (k:Nat) (a0:Int):Option Bool:=((utf_Start k a0).bind fun (t1:Bool) => (((if (t1 == false)=true then utf_within k a0 ([(T_utf_span.mk 45 46),(T_utf_span.mk 48 57),(T_utf_span.mk 183 183),(T_utf_span.mk 768 879),(T_utf_span.mk 8255 8256)]:List T_utf_span) else some default)).bind fun (t4:Bool) => some (t1 || t4)))
theorem utf_Part.ok {k:Nat} {a0:Int} {r:Bool} (H:utf_Part k a0=some r):Vx.Fn Try.prog 67 [(.v (.int .i32 a0))] [] (.v (.bool r)) []:=by
 unfold utf_Part at H
 refine Vx.Fn.of_okR Try.func67 rfl (Nat.le_of_ble_eq_true rfl) ?_
 refine Ok.seq ?_
 refine .rg [(0,(.v (.int .i32 a0)))] [] ?_
 refine Ok.seq ?_
 obtain⟨t1,h2,H⟩:=bindE H
 obtain⟨t4,h5,H⟩:=bindE H
 refine Ok.region (σ':=⟨[(2,(.v (.bool (t1 || t4))))],[]⟩) ?_ ?_
 ·refine .rn 1 ?_
  refine .cg (GOk.call rfl rfl cl66 rfl (utf_Start.ok h2) rfl) rfl rfl ?_
  refine .rn 1 ?_
  refine OpsOk.consI rfl rfl rfl (.one rfl) rfl (fun hw3 => (VOk.g (VOk.mv (d:=(.v (.int .i32 a0))) rfl rfl))) ?_
  refine OpsOk.consI rfl rfl rfl (.one rfl) rfl (fun hw3 => (VOk.g (VOk.to (d':=(.agg (e_utf_span (T_utf_span.mk 45 46)))) (.build [none,none] [(0,1),(1,1)] rfl Try.underlying94 (fa94 Try.underlying94) zo94 rfl rfl) rfl))) ?_
  refine OpsOk.consI rfl rfl rfl (.one rfl) rfl (fun hw3 => (VOk.g (VOk.to (d':=(.agg (e_utf_span (T_utf_span.mk 48 57)))) (.build [none,none] [(0,1),(1,1)] rfl Try.underlying94 (fa94 Try.underlying94) zo94 rfl rfl) rfl))) ?_
  refine OpsOk.consI rfl rfl rfl (.one rfl) rfl (fun hw3 => (VOk.g (VOk.to (d':=(.agg (e_utf_span (T_utf_span.mk 183 183)))) (.build [none,none] [(0,1),(1,1)] rfl Try.underlying94 (fa94 Try.underlying94) zo94 rfl rfl) rfl))) ?_
  refine OpsOk.consI rfl rfl rfl (.one rfl) rfl (fun hw3 => (VOk.g (VOk.to (d':=(.agg (e_utf_span (T_utf_span.mk 768 879)))) (.build [none,none] [(0,1),(1,1)] rfl Try.underlying94 (fa94 Try.underlying94) zo94 rfl rfl) rfl))) ?_
  refine OpsOk.consI rfl rfl rfl (.one rfl) rfl (fun hw3 => (VOk.g (VOk.to (d':=(.agg (e_utf_span (T_utf_span.mk 8255 8256)))) (.build [none,none] [(0,1),(1,1)] rfl Try.underlying94 (fa94 Try.underlying94) zo94 rfl rfl) rfl))) ?_
  refine OpsOk.consI rfl rfl rfl (.one rfl) rfl (fun hw3 => (GOk.fr (fr':=[(7,(.agg (e_utf_span (T_utf_span.mk 45 46)))),(8,(.agg (e_utf_span (T_utf_span.mk 48 57)))),(9,(.agg (e_utf_span (T_utf_span.mk 183 183)))),(10,(.agg (e_utf_span (T_utf_span.mk 768 879)))),(11,(.agg (e_utf_span (T_utf_span.mk 8255 8256))))]) ⟨DLe.of_eq (cT hw3).symm,DLe.of_eq (cT hw3).symm,DLe.of_eq (cT hw3).symm,DLe.of_eq (cT hw3).symm,DLe.of_eq (cT hw3).symm,trivial⟩ (GOk.to (d':=(L 2 e_utf_span ([(T_utf_span.mk 45 46),(T_utf_span.mk 48 57),(T_utf_span.mk 183 183),(T_utf_span.mk 768 879),(T_utf_span.mk 8255 8256)]:List T_utf_span))) (GOk.lit rfl Try.underlying96 sz94 zs94 rfl rfl rfl rfl) rfl))) ?_
  refine OpsOk.consI rfl rfl rfl (.one rfl) rfl (fun hw3 => (GOk.fr (fr':=[(6,(.v (.int .i32 a0))),(12,(L 2 e_utf_span ([(T_utf_span.mk 45 46),(T_utf_span.mk 48 57),(T_utf_span.mk 183 183),(T_utf_span.mk 768 879),(T_utf_span.mk 8255 8256)]:List T_utf_span)))]) ⟨DLe.of_eq (cT hw3).symm,DLe.of_eq (cT hw3).symm,trivial⟩ (GOk.call rfl rfl cl65 rfl (utf_within.ok (ifT h5 hw3)) rfl))) ?_
  refine .cv (VOk.to (VOk.pickI (b:=t1) (p:=true) (q:=t4) rfl rfl (fun hp6 => rfl) (fun hp6 => (cT (f_beq hp6)))) (pickOr t1 t4)) rfl rfl ?_
  refine .rn 1 ?_
  exact .dn
 refine Ok.ret ?_
 obtain rfl:=Option.some.inj H
 exact⟨.inl rfl,⟨_,(.cons (.tmp rfl) .nil),rfl⟩,trivial⟩
def utf_Name.l0 (k:Nat) (a0:Str):Nat→Nat→Int→Option Bool
 | 0,_,_ => none
 | m10 + 1,x3_6,x4_7 => (if (decide (x4_7 < (a0.length:Int)))=true then ((utf_Rune k a0 x4_7).bind fun (t11:Int × Int) => (((if ((t11.2 == 0) == false)=true then (if x3_6=66 then utf_Start k t11.1 else (if x3_6=67 then utf_Part k t11.1 else none)) else some default)).bind fun (t14:Bool) => (if ((t11.2 == 0) || (!t14))=true then some false else utf_Name.l0 k a0 m10 67 (IntKind.i64.wrap (x4_7 + t11.2))))) else some true)
def utf_Name (k:Nat) (a0:Str):Option Bool:=(if ((a0 == ([]:Str)) || (decide ((a0.length:Int) > 64)))=true then some false else utf_Name.l0 k a0 k 66 0)
theorem utf_Name.ok {k:Nat} {a0:Str} {r:Bool} (H:utf_Name k a0=some r):Vx.Fn Try.prog 60 [(S a0)] [] (.v (.bool r)) []:=by
 unfold utf_Name at H
 refine Vx.Fn.of_okR Try.func60 rfl (Nat.le_of_ble_eq_true rfl) ?_
 refine Ok.seq ?_
 refine .rg [(0,(S a0))] [] ?_
 refine Ok.seq ?_
 refine Ok.seq ?_
 refine Ok.region (σ':=⟨[(0,(S a0)),(13,(.v (.bool ((a0 == ([]:Str)) || (decide ((a0.length:Int) > 64))))))],[]⟩) ?_ ?_
 ·refine .rn 3 ?_
  refine OpsOk.consI rfl rfl rfl (.one rfl) rfl (fun hw1 => (VOk.g (VOk.mv (d:=(S a0)) rfl rfl))) ?_
  refine OpsOk.consI rfl rfl rfl (.one rfl) rfl (fun hw1 => (GOk.fr (fr':=[(10,(S a0))]) ⟨DLe.of_eq (cT hw1).symm,trivial⟩ (VOk.g (VOk.lenStr (s:=a0) rfl Try.underlying9 rfl)))) ?_
  refine OpsOk.consI rfl rfl rfl (.one rfl) rfl (fun hw1 => (GOk.fr (fr':=[(11,(.v (.int .i64 (a0.length:Int))))]) ⟨DLe.of_eq (cT hw1).symm,trivial⟩ (VOk.g (VOk.arith (op:=.gtr) (k:=.i64) (a:=(a0.length:Int)) (b:=64) rfl rfl rfl rfl)))) ?_
  refine .cv (VOk.to (VOk.pickI (b:=(a0 == ([]:Str))) (p:=true) (q:=(decide ((a0.length:Int) > 64))) rfl rfl (fun hp2 => rfl) (fun hp2 => (cT (f_beq hp2)))) (pickOr (a0 == ([]:Str)) (decide ((a0.length:Int) > 64)))) rfl rfl ?_
  exact .dn
 refine Ok.test (b:=((a0 == ([]:Str)) || (decide ((a0.length:Int) > 64)))) rfl (fun hb19 => ?_) (fun hb19 => ?_)
 ·replace H:=ifT H hb19
  refine Ok.seq ?_
  refine .rg [(2,(.v (.bool false)))] [] ?_
  refine Ok.ret ?_
  obtain rfl:=Option.some.inj H
  exact⟨.inl rfl,⟨_,(.cons (.tmp rfl) .nil),rfl⟩,trivial⟩
 ·replace H:=ifF H hb19
  refine Ok.skip ?_
  refine Ok.seq ?_
  refine .rg [(0,(S a0)),(3,(.clo 66 []))] [] ?_
  refine Ok.seq ?_
  refine Ok.seq ?_
  refine .rg [(0,(S a0)),(3,(.clo 66 [])),(4,(.v (.int .i64 0)))] [] ?_
  refine Ok.block ?_
  refine Ok.loop (fun m10 σ => ∃ (x3_6:Nat) (x4_7:Int),σ=⟨[(0,(S a0)),(3,(.clo x3_6 [])),(4,(.v (.int .i64 x4_7)))],[]⟩ ∧ utf_Name.l0 k a0 m10 x3_6 x4_7=some r) k ⟨66,0,rfl,H⟩ ?_
  rintro m10 σ ⟨x3_6,x4_7,rfl,H⟩
  cases m10 with
  | zero => exact absurd H (by simp [utf_Name.l0])
  | succ m10 =>
   unfold utf_Name.l0 at H
   refine Ok.seq ?_
   refine Ok.seq ?_
   refine .rg [(0,(S a0)),(3,(.clo x3_6 [])),(4,(.v (.int .i64 x4_7))),(17,(.v (.bool (decide (x4_7 < (a0.length:Int))))))] [] ?_
   refine Ok.test (b:=(decide (x4_7 < (a0.length:Int)))) rfl (fun hb18 => ?_) (fun hb18 => ?_)
   ·replace H:=ifT H hb18
    refine Ok.skip ?_
    refine Ok.seq ?_
    refine Ok.block ?_
    refine Ok.seq ?_
    obtain⟨t11,h12,H⟩:=bindE H
    refine Ok.region (σ':=⟨[(0,(S a0)),(3,(.clo x3_6 [])),(4,(.v (.int .i64 x4_7))),(5,(.v (.int .i32 t11.1))),(6,(.v (.int .i64 t11.2)))],[]⟩) ?_ ?_
    ·refine .rn 2 ?_
     refine .cg (GOk.call rfl rfl cl58 rfl (utf_Rune.ok h12) rfl) rfl rfl ?_
     refine .rn 5 ?_
     exact .dn
    refine Ok.seq ?_
    refine Ok.seq ?_
    obtain⟨t14,h15,H⟩:=bindE H
    refine Ok.region (σ':=⟨[(0,(S a0)),(4,(.v (.int .i64 x4_7))),(6,(.v (.int .i64 t11.2))),(31,(.v (.bool ((t11.2 == 0) || (!t14)))))],[]⟩) ?_ ?_
    ·refine .rn 3 ?_
     refine OpsOk.consI rfl rfl rfl (.one rfl) rfl (fun hw13 => (VOk.g (VOk.mv (d:=(.clo x3_6 [])) rfl rfl))) ?_
     refine OpsOk.consI rfl rfl rfl (.one rfl) rfl (fun hw13 => (VOk.g (VOk.mv (d:=(.v (.int .i32 t11.1))) rfl rfl))) ?_
     refine OpsOk.consI rfl rfl rfl (.one rfl) rfl (fun hw13 => (GOk.fr (fr':=[(27,(.clo x3_6 [])),(28,(.v (.int .i32 t11.1)))]) ⟨DLe.of_eq (cT hw13).symm,DLe.of_eq (cT hw13).symm,trivial⟩ (have q:callable Try.prog x3_6=true ∧ Vx.Fn Try.prog x3_6 [(.v (.int .i32 t11.1))] [] (.v (.bool t14)) []:=(fun h => selF h (fun e h => by rw [e]; exact⟨cl66,(utf_Start.ok h)⟩) (fun h => selF h (fun e h => by rw [e]; exact⟨cl67,(utf_Part.ok h)⟩) (fun h => nomatch h))) (ifT h15 hw13); GOk.call rfl rfl q.1 rfl q.2 rfl))) ?_
     refine OpsOk.consI rfl rfl rfl (.one rfl) rfl (fun hw13 => (GOk.fr (fr':=[(29,(.v (.bool t14)))]) ⟨DLe.of_eq (cT hw13).symm,trivial⟩ (VOk.g (VOk.not (b:=t14) rfl rfl)))) ?_
     refine .cv (VOk.to (VOk.pickI (b:=(t11.2 == 0)) (p:=true) (q:=(!t14)) rfl rfl (fun hp16 => rfl) (fun hp16 => (cT (f_beq hp16)))) (pickOr (t11.2 == 0) (!t14))) rfl rfl ?_
     exact .dn
    refine Ok.test (b:=((t11.2 == 0) || (!t14))) rfl (fun hb17 => ?_) (fun hb17 => ?_)
    ·replace H:=ifT H hb17
     refine Ok.seq ?_
     refine .rg [(2,(.v (.bool false)))] [] ?_
     refine Ok.ret ?_
     obtain rfl:=Option.some.inj H
     exact⟨.inl rfl,⟨_,(.cons (.tmp rfl) .nil),rfl⟩,trivial⟩
    ·replace H:=ifF H hb17
     refine Ok.skip ?_
     refine .rg [(0,(S a0)),(4,(.v (.int .i64 (IntKind.i64.wrap (x4_7 + t11.2)))))] [] ?_
     refine .rg [(0,(S a0)),(3,(.clo 67 [])),(4,(.v (.int .i64 (IntKind.i64.wrap (x4_7 + t11.2)))))] [] ?_
     exact⟨m10,Nat.lt_succ_self m10,67,(IntKind.i64.wrap (x4_7 + t11.2)),rfl,H⟩
   ·replace H:=ifF H hb18
    refine Ok.exit ?_
    refine Ok.seq ?_
    refine .rg [(2,(.v (.bool true)))] [] ?_
    refine Ok.ret ?_
    obtain rfl:=Option.some.inj H
    exact⟨.inl rfl,⟨_,(.cons (.tmp rfl) .nil),rfl⟩,trivial⟩
def tree_named (k:Nat) (a0:T_api_Name):Option Bool:=((utf_Name k a0.Local).bind fun (t1:Bool) => (((if (t1 == true)=true then tree_signs k a0.Space else some default)).bind fun (t4:Bool) => some ((t1 && t4) && (!(a0.Space == ([104,116,116,112,58,47,47,119,119,119,46,119,51,46,111,114,103,47,50,48,48,48,47,120,109,108,110,115,47]:Str))))))
theorem tree_named.ok {k:Nat} {a0:T_api_Name} {r:Bool} (H:tree_named k a0=some r):Vx.Fn Try.prog 48 [(.agg (e_api_Name a0))] [] (.v (.bool r)) []:=by
 unfold tree_named at H
 refine Vx.Fn.of_okR Try.func48 rfl (Nat.le_of_ble_eq_true rfl) ?_
 refine Ok.seq ?_
 refine .rg [(1,(.bref 1 0))] [(1,(.box .ex [(S a0.Space),(S a0.Local)]))] ?_
 refine Ok.seq ?_
 obtain⟨t1,h2,H⟩:=bindE H
 obtain⟨t4,h5,H⟩:=bindE H
 refine Ok.region (σ':=⟨[(2,(.v (.bool ((t1 && t4) && (!(a0.Space == ([104,116,116,112,58,47,47,119,119,119,46,119,51,46,111,114,103,47,50,48,48,48,47,120,109,108,110,115,47]:Str)))))))],[]⟩) ?_ ?_
 ·refine .rn 2 ?_
  refine .cg (GOk.call rfl rfl cl60 rfl (utf_Name.ok h2) rfl) rfl rfl ?_
  refine .rn 1 ?_
  refine OpsOk.consI rfl rfl rfl (.one rfl) rfl (fun hw3 => (VOk.g (VOk.to (VOk.fieldB rfl Try.underlying23 rfl sz9 rfl rfl) rfl))) ?_
  refine OpsOk.consI rfl rfl rfl (.one rfl) rfl (fun hw3 => (GOk.fr (fr':=[(7,(.bref 1 0))]) ⟨DLe.of_eq (cT hw3).symm,trivial⟩ (VOk.g (VOk.loadB (d:=(S a0.Space)) rfl Try.underlying9 rfl rfl rfl rfl)))) ?_
  refine OpsOk.consI rfl rfl rfl (.one rfl) rfl (fun hw3 => (GOk.fr (fr':=[(8,(S a0.Space))]) ⟨DLe.of_eq (cT hw3).symm,trivial⟩ (GOk.call rfl rfl cl47 rfl (tree_signs.ok (ifT h5 hw3)) rfl))) ?_
  refine .cv (VOk.to (VOk.pickI (b:=t1) (p:=t4) (q:=false) rfl rfl (fun hp6 => (cT (t_beq hp6))) (fun hp6 => rfl)) (pickAnd t1 t4)) rfl rfl ?_
  refine .rn 1 ?_
  refine OpsOk.consI rfl rfl rfl (.one rfl) rfl (fun hw7 => (VOk.g (VOk.to (VOk.fieldB rfl Try.underlying23 rfl sz9 rfl rfl) rfl))) ?_
  refine OpsOk.consI rfl rfl rfl (.one rfl) rfl (fun hw7 => (GOk.fr (fr':=[(12,(.bref 1 0))]) ⟨DLe.of_eq (cT hw7).symm,trivial⟩ (VOk.g (VOk.loadB (d:=(S a0.Space)) rfl Try.underlying9 rfl rfl rfl rfl)))) ?_
  refine OpsOk.consI rfl rfl rfl (.one rfl) rfl (fun hw7 => (GOk.fr (fr':=[(13,(S a0.Space))]) ⟨DLe.of_eq (cT hw7).symm,trivial⟩ (VOk.g (VOk.strOp (op:=.neq) (a:=a0.Space) (b:=([104,116,116,112,58,47,47,119,119,119,46,119,51,46,111,114,103,47,50,48,48,48,47,120,109,108,110,115,47]:Str)) rfl rfl rfl rfl)))) ?_
  refine .cv (VOk.to (VOk.pickI (b:=(t1 && t4)) (p:=(!(a0.Space == ([104,116,116,112,58,47,47,119,119,119,46,119,51,46,111,114,103,47,50,48,48,48,47,120,109,108,110,115,47]:Str)))) (q:=false) rfl rfl (fun hp8 => (cT (t_beq hp8))) (fun hp8 => rfl)) (pickAnd (t1 && t4) (!(a0.Space == ([104,116,116,112,58,47,47,119,119,119,46,119,51,46,111,114,103,47,50,48,48,48,47,120,109,108,110,115,47]:Str))))) rfl rfl ?_
  refine .rn 1 ?_
  exact .dn
 refine Ok.ret ?_
 obtain rfl:=Option.some.inj H
 exact⟨.inl rfl,⟨_,(.cons (.tmp rfl) .nil),rfl⟩,trivial⟩
def tree_attrs.l0 (k:Nat) (a0:List T_api_Attr):Nat→List (T_api_Name × Bool)→Int→Option Bool
 | 0,_,_ => none
 | m5 + 1,y6_2,x9_1 => (if (decide (x9_1 < (a0.length:Int)))=true then (if (0:Int) ≤ x9_1 ∧ x9_1 < (a0.length:Int) then ((tree_named k ((rd a0 x9_1).Name)).bind fun (t7:Bool) => (((if ((!t7) == false)=true then tree_signs k ((rd a0 x9_1).Value) else some default)).bind fun (t10:Bool) => (if ((((!t7) || (!t10)) || (((rd a0 x9_1).Name).Space == (T_api_Name.mk ([]:Str) ([120,109,108,110,115]:Str)).Space && (((rd a0 x9_1).Name).Local == (T_api_Name.mk ([]:Str) ([120,109,108,110,115]:Str)).Local && true))) || (lkm keq23 false y6_2 ((rd a0 x9_1).Name)))=true then some false else tree_attrs.l0 k a0 m5 (upm keq23 y6_2 ((rd a0 x9_1).Name) true) (IntKind.i64.wrap (x9_1 + 1))))) else none) else some (decide ((a0.length:Int) ≤ 32)))
def tree_attrs (k:Nat) (a0:List T_api_Attr):Option Bool:=tree_attrs.l0 k a0 k ([]:List (T_api_Name × Bool)) 0
theorem tree_attrs.ok {k:Nat} {a0:List T_api_Attr} {r:Bool} (H:tree_attrs k a0=some r):Vx.Fn Try.prog 49 [(L 3 e_api_Attr a0)] [] (.v (.bool r)) []:=by
 unfold tree_attrs at H
 refine Vx.Fn.of_okR Try.func49 rfl (Nat.le_of_ble_eq_true rfl) ?_
 refine Ok.seq ?_
 refine .rg [(0,(L 3 e_api_Attr a0))] [] ?_
 refine Ok.seq ?_
 refine Ok.region (σ':=⟨[(0,(L 3 e_api_Attr a0)),(3,(.mref 6))],[(6,(.map (List.map (fun p => ((fun a => D.agg (e_api_Name a)) p.1,D.v (Value.bool p.2))) ([]:List (T_api_Name × Bool)))))]⟩) ?_ ?_
 ·refine OpsOk.cons rfl (OpOk.mapNew 6 rfl rfl) ?_
  refine .rn 1 ?_
  exact .dn
 refine Ok.seq ?_
 refine Ok.seq ?_
 refine Ok.region (σ':=⟨[(0,(L 3 e_api_Attr a0)),(3,(.mref 6)),(7,(L 3 e_api_Attr a0)),(8,(.v (.int .i64 (a0.length:Int)))),(9,(.v (.int .i64 0)))],[(6,(.map (List.map (fun p => ((fun a => D.agg (e_api_Name a)) p.1,D.v (Value.bool p.2))) ([]:List (T_api_Name × Bool)))))]⟩) ?_ ?_
 ·refine .rn 1 ?_
  refine .cv (VOk.lenL (e:=e_api_Attr) (xs:=a0) rfl Try.underlying24 rfl) rfl rfl ?_
  refine .rn 1 ?_
  exact .dn
 refine Ok.block ?_
 refine Ok.loop (fun m5 σ => ∃ (y6_2:List (T_api_Name × Bool)) (x9_1:Int),σ=⟨[(0,(L 3 e_api_Attr a0)),(3,(.mref 6)),(7,(L 3 e_api_Attr a0)),(8,(.v (.int .i64 (a0.length:Int)))),(9,(.v (.int .i64 x9_1)))],[(6,(.map (List.map (fun p => ((fun a => D.agg (e_api_Name a)) p.1,D.v (Value.bool p.2))) y6_2)))]⟩ ∧ tree_attrs.l0 k a0 m5 y6_2 x9_1=some r) k ⟨([]:List (T_api_Name × Bool)),0,rfl,H⟩ ?_
 rintro m5 σ ⟨y6_2,x9_1,rfl,H⟩
 cases m5 with
 | zero => exact absurd H (by simp [tree_attrs.l0])
 | succ m5 =>
  unfold tree_attrs.l0 at H
  refine Ok.seq ?_
  refine .rg [(0,(L 3 e_api_Attr a0)),(3,(.mref 6)),(7,(L 3 e_api_Attr a0)),(8,(.v (.int .i64 (a0.length:Int)))),(9,(.v (.int .i64 x9_1))),(10,(.v (.bool (decide (x9_1 < (a0.length:Int))))))] [(6,(.map (List.map (fun p => ((fun a => D.agg (e_api_Name a)) p.1,D.v (Value.bool p.2))) y6_2)))] ?_
  refine Ok.seq ?_
  refine Ok.test (b:=(decide (x9_1 < (a0.length:Int)))) rfl (fun hb18 => ?_) (fun hb18 => ?_)
  ·replace H:=ifT H hb18
   refine Ok.skip ?_
   refine Ok.seq ?_
   refine Ok.block ?_
   refine Ok.seq ?_
   obtain⟨c6,H⟩:=assertE H
   refine Ok.region (σ':=⟨[(0,(L 3 e_api_Attr a0)),(3,(.mref 6)),(5,(.bref 5 0)),(7,(L 3 e_api_Attr a0)),(8,(.v (.int .i64 (a0.length:Int)))),(9,(.v (.int .i64 x9_1)))],[(5,(.box .ex (c_api_Attr (rd a0 x9_1)))),(6,(.map (List.map (fun p => ((fun a => D.agg (e_api_Name a)) p.1,D.v (Value.bool p.2))) y6_2)))]⟩) ?_ ?_
   ·refine .cv (VOk.indexL (sz:=3) (e:=e_api_Attr) (xs:=a0) (i:=x9_1) rfl Try.underlying24 sz47 rfl rfl c6) rfl rfl ?_
    refine .rn 3 ?_
    exact .dn
   refine Ok.seq ?_
   refine Ok.seq ?_
   obtain⟨t7,h8,H⟩:=bindE H
   obtain⟨t10,h11,H⟩:=bindE H
   refine Ok.region (σ':=⟨[(0,(L 3 e_api_Attr a0)),(3,(.mref 6)),(5,(.bref 5 0)),(7,(L 3 e_api_Attr a0)),(8,(.v (.int .i64 (a0.length:Int)))),(9,(.v (.int .i64 x9_1))),(34,(.v (.bool ((((!t7) || (!t10)) || (((rd a0 x9_1).Name).Space == (T_api_Name.mk ([]:Str) ([120,109,108,110,115]:Str)).Space && (((rd a0 x9_1).Name).Local == (T_api_Name.mk ([]:Str) ([120,109,108,110,115]:Str)).Local && true))) || (lkm keq23 false y6_2 ((rd a0 x9_1).Name))))))],[(5,(.box .ex (c_api_Attr (rd a0 x9_1)))),(6,(.map (List.map (fun p => ((fun a => D.agg (e_api_Name a)) p.1,D.v (Value.bool p.2))) y6_2)))]⟩) ?_ ?_
   ·refine .rn 2 ?_
    refine .cg (GOk.call rfl rfl cl48 rfl (tree_named.ok h8) rfl) rfl rfl ?_
    refine .rn 2 ?_
    refine OpsOk.consI rfl rfl rfl (.one rfl) rfl (fun hw9 => (VOk.g (VOk.to (VOk.fieldB rfl Try.underlying47 rfl sz9 rfl rfl) rfl))) ?_
    refine OpsOk.consI rfl rfl rfl (.one rfl) rfl (fun hw9 => (GOk.fr (fr':=[(18,(.bref 5 2))]) ⟨DLe.of_eq (cT hw9).symm,trivial⟩ (VOk.g (VOk.loadB (d:=(S ((rd a0 x9_1).Value))) rfl Try.underlying9 rfl rfl rfl rfl)))) ?_
    refine OpsOk.consI rfl rfl rfl (.one rfl) rfl (fun hw9 => (GOk.fr (fr':=[(19,(S ((rd a0 x9_1).Value)))]) ⟨DLe.of_eq (cT hw9).symm,trivial⟩ (GOk.call rfl rfl cl47 rfl (tree_signs.ok (ifT h11 hw9)) rfl))) ?_
    refine OpsOk.consI rfl rfl rfl (.one rfl) rfl (fun hw9 => (GOk.fr (fr':=[(20,(.v (.bool t10)))]) ⟨DLe.of_eq (cT hw9).symm,trivial⟩ (VOk.g (VOk.not (b:=t10) rfl rfl)))) ?_
    refine .cv (VOk.to (VOk.pickI (b:=(!t7)) (p:=true) (q:=(!t10)) rfl rfl (fun hp12 => rfl) (fun hp12 => (cT (f_beq hp12)))) (pickOr (!t7) (!t10))) rfl rfl ?_
    refine .rn 1 ?_
    refine OpsOk.consI rfl rfl rfl (.one rfl) rfl (fun hw13 => (VOk.g (VOk.to (VOk.fieldB rfl Try.underlying47 rfl sz23 rfl rfl) rfl))) ?_
    refine OpsOk.consI rfl rfl rfl (.one rfl) rfl (fun hw13 => (GOk.fr (fr':=[(24,(.bref 5 0))]) ⟨DLe.of_eq (cT hw13).symm,trivial⟩ (VOk.g (VOk.to (d':=(.agg (e_api_Name ((rd a0 x9_1).Name)))) (.loadBAgg rfl Try.underlying23 rfl sz23 rfl rfl rfl) rfl)))) ?_
    refine OpsOk.consI rfl rfl rfl (.one rfl) rfl (fun hw13 => (VOk.g (VOk.to (d':=(.agg (e_api_Name (T_api_Name.mk ([]:Str) ([120,109,108,110,115]:Str))))) (.build [none,none] [(0,1),(1,1)] rfl Try.underlying23 (fa23 Try.underlying23) zo23 rfl rfl) rfl))) ?_
    refine OpsOk.consI rfl rfl rfl (.one rfl) rfl (fun hw13 => (GOk.fr (fr':=[(25,(.agg (e_api_Name ((rd a0 x9_1).Name)))),(26,(.agg (e_api_Name (T_api_Name.mk ([]:Str) ([120,109,108,110,115]:Str)))))]) ⟨DLe.of_eq (cT hw13).symm,DLe.of_eq (cT hw13).symm,trivial⟩ (VOk.g (VOk.eqS' (op:=.eql) (d:=(.v (.bool (((rd a0 x9_1).Name).Space == (T_api_Name.mk ([]:Str) ([120,109,108,110,115]:Str)).Space && (((rd a0 x9_1).Name).Local == (T_api_Name.mk ([]:Str) ([120,109,108,110,115]:Str)).Local && true))))) rfl (.inl rfl) (eqt23 9998) ag23 eg23 rfl rfl rfl rfl)))) ?_
    refine .cv (VOk.to (VOk.pickI (b:=((!t7) || (!t10))) (p:=true) (q:=(((rd a0 x9_1).Name).Space == (T_api_Name.mk ([]:Str) ([120,109,108,110,115]:Str)).Space && (((rd a0 x9_1).Name).Local == (T_api_Name.mk ([]:Str) ([120,109,108,110,115]:Str)).Local && true))) rfl rfl (fun hp14 => rfl) (fun hp14 => (cT (f_beq hp14)))) (pickOr ((!t7) || (!t10)) (((rd a0 x9_1).Name).Space == (T_api_Name.mk ([]:Str) ([120,109,108,110,115]:Str)).Space && (((rd a0 x9_1).Name).Local == (T_api_Name.mk ([]:Str) ([120,109,108,110,115]:Str)).Local && true)))) rfl rfl ?_
    refine .rn 1 ?_
    refine OpsOk.consI rfl rfl rfl (.one rfl) rfl (fun hw15 => (VOk.g (VOk.mv (d:=(.mref 6)) rfl rfl))) ?_
    refine OpsOk.consI rfl rfl rfl (.one rfl) rfl (fun hw15 => (VOk.g (VOk.to (VOk.fieldB rfl Try.underlying47 rfl sz23 rfl rfl) rfl))) ?_
    refine OpsOk.consI rfl rfl rfl (.one rfl) rfl (fun hw15 => (GOk.fr (fr':=[(31,(.bref 5 0))]) ⟨DLe.of_eq (cT hw15).symm,trivial⟩ (VOk.g (VOk.to (d':=(.agg (e_api_Name ((rd a0 x9_1).Name)))) (.loadBAgg rfl Try.underlying23 rfl sz23 rfl rfl rfl) rfl)))) ?_
    refine OpsOk.consI rfl rfl rfl (.one rfl) rfl (fun hw15 => (GOk.fr (fr':=[(30,(.mref 6)),(32,(.agg (e_api_Name ((rd a0 x9_1).Name))))]) ⟨DLe.of_eq (cT hw15).symm,DLe.of_eq (cT hw15).symm,trivial⟩ (VOk.g (VOk.mapGet (vv:=Value.bool) (m:=y6_2) (k:=(rd a0 x9_1).Name) false rfl Try.underlying86 kt23 zo4 rfl rfl rfl)))) ?_
    refine .cv (VOk.to (VOk.pickI (b:=(((!t7) || (!t10)) || (((rd a0 x9_1).Name).Space == (T_api_Name.mk ([]:Str) ([120,109,108,110,115]:Str)).Space && (((rd a0 x9_1).Name).Local == (T_api_Name.mk ([]:Str) ([120,109,108,110,115]:Str)).Local && true)))) (p:=true) (q:=(lkm keq23 false y6_2 ((rd a0 x9_1).Name))) rfl rfl (fun hp16 => rfl) (fun hp16 => (cT (f_beq hp16)))) (pickOr (((!t7) || (!t10)) || (((rd a0 x9_1).Name).Space == (T_api_Name.mk ([]:Str) ([120,109,108,110,115]:Str)).Space && (((rd a0 x9_1).Name).Local == (T_api_Name.mk ([]:Str) ([120,109,108,110,115]:Str)).Local && true))) (lkm keq23 false y6_2 ((rd a0 x9_1).Name)))) rfl rfl ?_
    exact .dn
   refine Ok.test (b:=((((!t7) || (!t10)) || (((rd a0 x9_1).Name).Space == (T_api_Name.mk ([]:Str) ([120,109,108,110,115]:Str)).Space && (((rd a0 x9_1).Name).Local == (T_api_Name.mk ([]:Str) ([120,109,108,110,115]:Str)).Local && true))) || (lkm keq23 false y6_2 ((rd a0 x9_1).Name)))) rfl (fun hb17 => ?_) (fun hb17 => ?_)
   ·replace H:=ifT H hb17
    refine Ok.seq ?_
    refine .rg [(2,(.v (.bool false)))] [] ?_
    refine Ok.ret ?_
    obtain rfl:=Option.some.inj H
    exact⟨.inl rfl,⟨_,(.cons (.tmp rfl) .nil),rfl⟩,trivial⟩
   ·replace H:=ifF H hb17
    refine Ok.skip ?_
    refine Ok.region (σ':=⟨[(0,(L 3 e_api_Attr a0)),(3,(.mref 6)),(7,(L 3 e_api_Attr a0)),(8,(.v (.int .i64 (a0.length:Int)))),(9,(.v (.int .i64 x9_1)))],[(6,(.map (List.map (fun p => ((fun a => D.agg (e_api_Name a)) p.1,D.v (Value.bool p.2))) (upm keq23 y6_2 ((rd a0 x9_1).Name) true))))]⟩) ?_ ?_
    ·refine .rn 3 ?_
     refine OpsOk.cons rfl (OpOk.mapSet (vv:=Value.bool) (m:=y6_2) (k:=(rd a0 x9_1).Name) (v:=true) rfl Try.underlying86 kt23 (.same _) rfl (.same _) (.same _) rfl) ?_
     exact .dn
    refine .rg [(0,(L 3 e_api_Attr a0)),(3,(.mref 6)),(7,(L 3 e_api_Attr a0)),(8,(.v (.int .i64 (a0.length:Int)))),(9,(.v (.int .i64 (IntKind.i64.wrap (x9_1 + 1)))))] [(6,(.map (List.map (fun p => ((fun a => D.agg (e_api_Name a)) p.1,D.v (Value.bool p.2))) (upm keq23 y6_2 ((rd a0 x9_1).Name) true))))] ?_
    exact⟨m5,Nat.lt_succ_self m5,(upm keq23 y6_2 ((rd a0 x9_1).Name) true),(IntKind.i64.wrap (x9_1 + 1)),rfl,H⟩
  ·replace H:=ifF H hb18
   refine Ok.exit ?_
   refine Ok.seq ?_
   refine Ok.region (σ':=⟨[(2,(.v (.bool (decide ((a0.length:Int) ≤ 32)))))],[]⟩) ?_ ?_
   ·refine .rn 1 ?_
    refine .cv (VOk.lenL (e:=e_api_Attr) (xs:=a0) rfl Try.underlying24 rfl) rfl rfl ?_
    refine .rn 2 ?_
    exact .dn
   refine Ok.ret ?_
   obtain rfl:=Option.some.inj H
   exact⟨.inl rfl,⟨_,(.cons (.tmp rfl) .nil),rfl⟩,trivial⟩
def tree_right.l0 (k:Nat) (self:T_api_Node→Int→Bool→Int→Option (Bool × Int)) (a0:T_api_Node) (a1:Int):Nat→Int→Int→Bool→Option (Bool × Int)
 | 0,_,_,_ => none
 | m29 + 1,y3_0_25,x82_24,x9_23 => (if (decide (x82_24 < (a0.Kids.length:Int)))=true then (if (0:Int) ≤ x82_24 ∧ x82_24 < (a0.Kids.length:Int) then ((self (rd a0.Kids x82_24) (IntKind.i64.wrap (a1 + 1)) x9_23 y3_0_25).bind fun (t31:Bool × Int) => (if (!t31.1)=true then some (false,t31.2) else tree_right.l0 k self a0 a1 m29 t31.2 (IntKind.i64.wrap (x82_24 + 1)) (((rd a0.Kids x82_24).Kind) == 2))) else none) else some (true,y3_0_25))
def tree_right:Nat→T_api_Node→Int→Bool→Int→Option (Bool × Int)
 | 0,_,_,_,_ => none
 | k + 1,a0,a1,a2,a3 => (if (decide ((IntKind.i64.wrap (a3 - 1)) < 0))=true then some (false,(IntKind.i64.wrap (a3 - 1))) else (if (a0.Kind == 2)=true then (((if (((!a2) && (!(a0.Text == ([]:Str)))) == true)=true then tree_signs k a0.Text else some default)).bind fun (t4:Bool) => some ((((((!a2) && (!(a0.Text == ([]:Str)))) && t4) && (a0.Name.Space == (T_api_Name.mk ([]:Str) ([]:Str)).Space && (a0.Name.Local == (T_api_Name.mk ([]:Str) ([]:Str)).Local && true))) && ((IntKind.i64.wrap ((a0.Attrs.length:Int) + (a0.Kids.length:Int))) == 0)),(IntKind.i64.wrap (a3 - 1)))) else (((if ((((a0.Kind != 1) || (decide (a1 > 24))) || (!(a0.Text == ([]:Str)))) == false)=true then tree_named k a0.Name else some default)).bind fun (t16:Bool) => (((if (((((a0.Kind != 1) || (decide (a1 > 24))) || (!(a0.Text == ([]:Str)))) || (!t16)) == false)=true then tree_attrs k a0.Attrs else some default)).bind fun (t20:Bool) => (if (((((a0.Kind != 1) || (decide (a1 > 24))) || (!(a0.Text == ([]:Str)))) || (!t16)) || (!t20))=true then some (false,(IntKind.i64.wrap (a3 - 1))) else tree_right.l0 k (tree_right k) a0 a1 k (IntKind.i64.wrap (a3 - 1)) 0 false)))))
theorem tree_right.ok {k:Nat} {a0:T_api_Node} {a1:Int} {a2:Bool} {a3:Int} {r:Bool × Int} (H:tree_right k a0 a1 a2 a3=some r) (b:Nat):Vx.Fn Try.prog 29 [(.agg (e_api_Node a0)),(.v (.int .i64 a1)),(.v (.bool a2)),(.bref 3 0)] [(3,(.box (.at b) [(.v (.int .i64 a3))]))] (.v (.bool r.1)) [(3,(.box (.at b) [(.v (.int .i64 r.2))]))]:=by
 induction k generalizing a0 a1 a2 a3 r b with
 | zero => exact absurd H (by simp [tree_right])
 | succ k ih =>
  unfold tree_right at H
  refine Vx.Fn.of_okR Try.func29 rfl (Nat.le_of_ble_eq_true rfl) ?_
  refine Ok.seq ?_
  refine Ok.region (σ':=⟨[(1,(.v (.int .i64 a1))),(2,(.v (.bool a2))),(3,(.bref 3 0)),(4,(.bref 4 0))],[(3,(.box (.at b) [(.v (.int .i64 a3))])),(4,(bxN a0))]⟩) ?_ ?_
  ·refine OpsOk.cut1 0 (.agg (c_api_Node a0)) (DLe.of_eq (congrArg D.agg (e_api_Node_c _).symm)) ?_
   refine .rn 2 ?_
   exact .dn
  refine Ok.seq ?_
  refine .rg [(1,(.v (.int .i64 a1))),(2,(.v (.bool a2))),(3,(.bref 3 0)),(4,(.bref 4 0))] [(3,(.box (.at b) [(.v (.int .i64 (IntKind.i64.wrap (a3 - 1))))])),(4,(bxN a0))] ?_
  refine Ok.seq ?_
  refine Ok.block ?_
  refine Ok.seq ?_
  refine .rg [(1,(.v (.int .i64 a1))),(2,(.v (.bool a2))),(3,(.bref 3 0)),(4,(.bref 4 0)),(17,(.v (.bool (decide ((IntKind.i64.wrap (a3 - 1)) < 0)))))] [(3,(.box (.at b) [(.v (.int .i64 (IntKind.i64.wrap (a3 - 1))))])),(4,(bxN a0))] ?_
  refine Ok.test (b:=(decide ((IntKind.i64.wrap (a3 - 1)) < 0))) rfl (fun hb37 => ?_) (fun hb37 => ?_)
  ·replace H:=ifT H hb37
   refine Ok.seq ?_
   refine .rg [(8,(.v (.bool false)))] [(3,(.box (.at b) [(.v (.int .i64 (IntKind.i64.wrap (a3 - 1))))]))] ?_
   refine Ok.ret ?_
   obtain rfl:=Option.some.inj H
   exact⟨.inl rfl,⟨_,(.cons (.tmp rfl) .nil),rfl⟩,⟨.same _,trivial⟩⟩
  ·replace H:=ifF H hb37
   refine Ok.seq ?_
   refine .rg [(1,(.v (.int .i64 a1))),(2,(.v (.bool a2))),(3,(.bref 3 0)),(4,(.bref 4 0)),(22,(.v (.bool (a0.Kind == 2))))] [(3,(.box (.at b) [(.v (.int .i64 (IntKind.i64.wrap (a3 - 1))))])),(4,(bxN a0))] ?_
   refine Ok.test (b:=(a0.Kind == 2)) rfl (fun hb36 => ?_) (fun hb36 => ?_)
   ·replace H:=ifT H hb36
    refine Ok.seq ?_
    obtain⟨t4,h5,H⟩:=bindE H
    refine Ok.region (σ':=⟨[(8,(.v (.bool (((((!a2) && (!(a0.Text == ([]:Str)))) && t4) && (a0.Name.Space == (T_api_Name.mk ([]:Str) ([]:Str)).Space && (a0.Name.Local == (T_api_Name.mk ([]:Str) ([]:Str)).Local && true))) && ((IntKind.i64.wrap ((a0.Attrs.length:Int) + (a0.Kids.length:Int))) == 0)))))],[(3,(.box (.at b) [(.v (.int .i64 (IntKind.i64.wrap (a3 - 1))))]))]⟩) ?_ ?_
    ·refine .rn 3 ?_
     refine OpsOk.consI rfl rfl rfl (.one rfl) rfl (fun hw1 => (VOk.g (VOk.to (VOk.fieldB rfl Try.underlying27 rfl sz9 rfl rfl) rfl))) ?_
     refine OpsOk.consI rfl rfl rfl (.one rfl) rfl (fun hw1 => (GOk.fr (fr':=[(29,(.bref 4 5))]) ⟨DLe.of_eq (cT hw1).symm,trivial⟩ (VOk.g (VOk.loadB (d:=(S a0.Text)) rfl Try.underlying9 rfl rfl rfl rfl)))) ?_
     refine OpsOk.consI rfl rfl rfl (.one rfl) rfl (fun hw1 => (GOk.fr (fr':=[(30,(S a0.Text))]) ⟨DLe.of_eq (cT hw1).symm,trivial⟩ (VOk.g (VOk.strOp (op:=.neq) (a:=a0.Text) (b:=([]:Str)) rfl rfl rfl rfl)))) ?_
     refine .cv (VOk.to (VOk.pickI (b:=(!a2)) (p:=(!(a0.Text == ([]:Str)))) (q:=false) rfl rfl (fun hp2 => (cT (t_beq hp2))) (fun hp2 => rfl)) (pickAnd (!a2) (!(a0.Text == ([]:Str))))) rfl rfl ?_
     refine .rn 1 ?_
     refine OpsOk.consI rfl rfl rfl (.one rfl) rfl (fun hw3 => (VOk.g (VOk.to (VOk.fieldB rfl Try.underlying27 rfl sz9 rfl rfl) rfl))) ?_
     refine OpsOk.consI rfl rfl rfl (.one rfl) rfl (fun hw3 => (GOk.fr (fr':=[(34,(.bref 4 5))]) ⟨DLe.of_eq (cT hw3).symm,trivial⟩ (VOk.g (VOk.loadB (d:=(S a0.Text)) rfl Try.underlying9 rfl rfl rfl rfl)))) ?_
     refine OpsOk.consI rfl rfl rfl (.one rfl) rfl (fun hw3 => (GOk.fr (fr':=[(35,(S a0.Text))]) ⟨DLe.of_eq (cT hw3).symm,trivial⟩ (GOk.call rfl rfl cl47 rfl (tree_signs.ok (ifT h5 hw3)) rfl))) ?_
     refine .cv (VOk.to (VOk.pickI (b:=((!a2) && (!(a0.Text == ([]:Str))))) (p:=t4) (q:=false) rfl rfl (fun hp6 => (cT (t_beq hp6))) (fun hp6 => rfl)) (pickAnd ((!a2) && (!(a0.Text == ([]:Str)))) t4)) rfl rfl ?_
     refine .rn 1 ?_
     refine OpsOk.consI rfl rfl rfl (.one rfl) rfl (fun hw7 => (VOk.g (VOk.to (VOk.fieldB rfl Try.underlying27 rfl sz23 rfl rfl) rfl))) ?_
     refine OpsOk.consI rfl rfl rfl (.one rfl) rfl (fun hw7 => (GOk.fr (fr':=[(39,(.bref 4 1))]) ⟨DLe.of_eq (cT hw7).symm,trivial⟩ (VOk.g (VOk.to (d':=(.agg (e_api_Name a0.Name))) (.loadBAgg rfl Try.underlying23 rfl sz23 rfl rfl rfl) rfl)))) ?_
     refine OpsOk.consI rfl rfl rfl (.one rfl) rfl (fun hw7 => (VOk.g (VOk.to (d':=(.agg (e_api_Name (T_api_Name.mk ([]:Str) ([]:Str))))) (.build [none,none] [(0,1),(1,1)] rfl Try.underlying23 (fa23 Try.underlying23) zo23 rfl rfl) rfl))) ?_
     refine OpsOk.consI rfl rfl rfl (.one rfl) rfl (fun hw7 => (GOk.fr (fr':=[(40,(.agg (e_api_Name a0.Name))),(41,(.agg (e_api_Name (T_api_Name.mk ([]:Str) ([]:Str)))))]) ⟨DLe.of_eq (cT hw7).symm,DLe.of_eq (cT hw7).symm,trivial⟩ (VOk.g (VOk.eqS' (op:=.eql) (d:=(.v (.bool (a0.Name.Space == (T_api_Name.mk ([]:Str) ([]:Str)).Space && (a0.Name.Local == (T_api_Name.mk ([]:Str) ([]:Str)).Local && true))))) rfl (.inl rfl) (eqt23 9998) ag23 eg23 rfl rfl rfl rfl)))) ?_
     refine .cv (VOk.to (VOk.pickI (b:=(((!a2) && (!(a0.Text == ([]:Str)))) && t4)) (p:=(a0.Name.Space == (T_api_Name.mk ([]:Str) ([]:Str)).Space && (a0.Name.Local == (T_api_Name.mk ([]:Str) ([]:Str)).Local && true))) (q:=false) rfl rfl (fun hp8 => (cT (t_beq hp8))) (fun hp8 => rfl)) (pickAnd (((!a2) && (!(a0.Text == ([]:Str)))) && t4) (a0.Name.Space == (T_api_Name.mk ([]:Str) ([]:Str)).Space && (a0.Name.Local == (T_api_Name.mk ([]:Str) ([]:Str)).Local && true)))) rfl rfl ?_
     refine .rn 1 ?_
     refine OpsOk.consI rfl rfl rfl (.one rfl) rfl (fun hw9 => (VOk.g (VOk.to (VOk.fieldB rfl Try.underlying27 rfl sz24 rfl rfl) rfl))) ?_
     refine OpsOk.consI rfl rfl rfl (.one rfl) rfl (fun hw9 => (GOk.fr (fr':=[(45,(.bref 4 3))]) ⟨DLe.of_eq (cT hw9).symm,trivial⟩ (VOk.g (VOk.loadB (d:=(L 3 e_api_Attr a0.Attrs)) rfl Try.underlying24 rfl rfl rfl rfl)))) ?_
     refine OpsOk.consI rfl rfl rfl (.one rfl) rfl (fun hw9 => (GOk.fr (fr':=[(46,(L 3 e_api_Attr a0.Attrs))]) ⟨DLe.of_eq (cT hw9).symm,trivial⟩ (VOk.g (VOk.lenL (e:=e_api_Attr) (xs:=a0.Attrs) rfl Try.underlying24 rfl)))) ?_
     refine OpsOk.consI rfl rfl rfl (.one rfl) rfl (fun hw9 => (VOk.g (VOk.to (VOk.fieldB rfl Try.underlying27 rfl sz25 rfl rfl) rfl))) ?_
     refine OpsOk.consI rfl rfl rfl (.one rfl) rfl (fun hw9 => (GOk.fr (fr':=[(48,(.bref 4 4))]) ⟨DLe.of_eq (cT hw9).symm,trivial⟩ (VOk.g (VOk.loadB (d:=(L 6 e_api_Node a0.Kids)) rfl Try.underlying25 rfl rfl rfl rfl)))) ?_
     refine OpsOk.consI rfl rfl rfl (.one rfl) rfl (fun hw9 => (GOk.fr (fr':=[(49,(L 6 e_api_Node a0.Kids))]) ⟨DLe.of_eq (cT hw9).symm,trivial⟩ (VOk.g (VOk.lenL (e:=e_api_Node) (xs:=a0.Kids) rfl Try.underlying25 rfl)))) ?_
     refine OpsOk.consI rfl rfl rfl (.one rfl) rfl (fun hw9 => (GOk.fr (fr':=[(47,(.v (.int .i64 (a0.Attrs.length:Int)))),(50,(.v (.int .i64 (a0.Kids.length:Int))))]) ⟨DLe.of_eq (cT hw9).symm,DLe.of_eq (cT hw9).symm,trivial⟩ (VOk.g (VOk.arith (op:=.add) (k:=.i64) (a:=(a0.Attrs.length:Int)) (b:=(a0.Kids.length:Int)) rfl rfl rfl rfl)))) ?_
     refine OpsOk.consI rfl rfl rfl (.one rfl) rfl (fun hw9 => (GOk.fr (fr':=[(51,(.v (.int .i64 (IntKind.i64.wrap ((a0.Attrs.length:Int) + (a0.Kids.length:Int))))))]) ⟨DLe.of_eq (cT hw9).symm,trivial⟩ (VOk.g (VOk.arith (op:=.eql) (k:=.i64) (a:=(IntKind.i64.wrap ((a0.Attrs.length:Int) + (a0.Kids.length:Int)))) (b:=0) rfl rfl rfl rfl)))) ?_
     refine .cv (VOk.to (VOk.pickI (b:=((((!a2) && (!(a0.Text == ([]:Str)))) && t4) && (a0.Name.Space == (T_api_Name.mk ([]:Str) ([]:Str)).Space && (a0.Name.Local == (T_api_Name.mk ([]:Str) ([]:Str)).Local && true)))) (p:=((IntKind.i64.wrap ((a0.Attrs.length:Int) + (a0.Kids.length:Int))) == 0)) (q:=false) rfl rfl (fun hp10 => (cT (t_beq hp10))) (fun hp10 => rfl)) (pickAnd ((((!a2) && (!(a0.Text == ([]:Str)))) && t4) && (a0.Name.Space == (T_api_Name.mk ([]:Str) ([]:Str)).Space && (a0.Name.Local == (T_api_Name.mk ([]:Str) ([]:Str)).Local && true))) ((IntKind.i64.wrap ((a0.Attrs.length:Int) + (a0.Kids.length:Int))) == 0))) rfl rfl ?_
     refine .rn 1 ?_
     exact .dn
    refine Ok.ret ?_
    obtain rfl:=Option.some.inj H
    exact⟨.inl rfl,⟨_,(.cons (.tmp rfl) .nil),rfl⟩,⟨.same _,trivial⟩⟩
   ·replace H:=ifF H hb36
    refine Ok.seq ?_
    obtain⟨t16,h17,H⟩:=bindE H
    obtain⟨t20,h21,H⟩:=bindE H
    refine Ok.region (σ':=⟨[(1,(.v (.int .i64 a1))),(3,(.bref 3 0)),(4,(.bref 4 0)),(54,(.v (.bool (((((a0.Kind != 1) || (decide (a1 > 24))) || (!(a0.Text == ([]:Str)))) || (!t16)) || (!t20)))))],[(3,(.box (.at b) [(.v (.int .i64 (IntKind.i64.wrap (a3 - 1))))])),(4,(bxN a0))]⟩) ?_ ?_
    ·refine .rn 4 ?_
     refine OpsOk.consI rfl rfl rfl (.one rfl) rfl (fun hw11 => (VOk.g (VOk.mv (d:=(.v (.int .i64 a1))) rfl rfl))) ?_
     refine OpsOk.consI rfl rfl rfl (.one rfl) rfl (fun hw11 => (GOk.fr (fr':=[(59,(.v (.int .i64 a1)))]) ⟨DLe.of_eq (cT hw11).symm,trivial⟩ (VOk.g (VOk.arith (op:=.gtr) (k:=.i64) (a:=a1) (b:=24) rfl rfl rfl rfl)))) ?_
     refine .cv (VOk.to (VOk.pickI (b:=(a0.Kind != 1)) (p:=true) (q:=(decide (a1 > 24))) rfl rfl (fun hp12 => rfl) (fun hp12 => (cT (f_beq hp12)))) (pickOr (a0.Kind != 1) (decide (a1 > 24)))) rfl rfl ?_
     refine .rn 1 ?_
     refine OpsOk.consI rfl rfl rfl (.one rfl) rfl (fun hw13 => (VOk.g (VOk.to (VOk.fieldB rfl Try.underlying27 rfl sz9 rfl rfl) rfl))) ?_
     refine OpsOk.consI rfl rfl rfl (.one rfl) rfl (fun hw13 => (GOk.fr (fr':=[(63,(.bref 4 5))]) ⟨DLe.of_eq (cT hw13).symm,trivial⟩ (VOk.g (VOk.loadB (d:=(S a0.Text)) rfl Try.underlying9 rfl rfl rfl rfl)))) ?_
     refine OpsOk.consI rfl rfl rfl (.one rfl) rfl (fun hw13 => (GOk.fr (fr':=[(64,(S a0.Text))]) ⟨DLe.of_eq (cT hw13).symm,trivial⟩ (VOk.g (VOk.strOp (op:=.neq) (a:=a0.Text) (b:=([]:Str)) rfl rfl rfl rfl)))) ?_
     refine .cv (VOk.to (VOk.pickI (b:=((a0.Kind != 1) || (decide (a1 > 24)))) (p:=true) (q:=(!(a0.Text == ([]:Str)))) rfl rfl (fun hp14 => rfl) (fun hp14 => (cT (f_beq hp14)))) (pickOr ((a0.Kind != 1) || (decide (a1 > 24))) (!(a0.Text == ([]:Str))))) rfl rfl ?_
     refine .rn 1 ?_
     refine OpsOk.consI rfl rfl rfl (.one rfl) rfl (fun hw15 => (VOk.g (VOk.to (VOk.fieldB rfl Try.underlying27 rfl sz23 rfl rfl) rfl))) ?_
     refine OpsOk.consI rfl rfl rfl (.one rfl) rfl (fun hw15 => (GOk.fr (fr':=[(68,(.bref 4 1))]) ⟨DLe.of_eq (cT hw15).symm,trivial⟩ (VOk.g (VOk.to (d':=(.agg (e_api_Name a0.Name))) (.loadBAgg rfl Try.underlying23 rfl sz23 rfl rfl rfl) rfl)))) ?_
     refine OpsOk.consI rfl rfl rfl (.one rfl) rfl (fun hw15 => (GOk.fr (fr':=[(69,(.agg (e_api_Name a0.Name)))]) ⟨DLe.of_eq (cT hw15).symm,trivial⟩ (GOk.call rfl rfl cl48 rfl (tree_named.ok (ifT h17 hw15)) rfl))) ?_
     refine OpsOk.consI rfl rfl rfl (.one rfl) rfl (fun hw15 => (GOk.fr (fr':=[(70,(.v (.bool t16)))]) ⟨DLe.of_eq (cT hw15).symm,trivial⟩ (VOk.g (VOk.not (b:=t16) rfl rfl)))) ?_
     refine .cv (VOk.to (VOk.pickI (b:=(((a0.Kind != 1) || (decide (a1 > 24))) || (!(a0.Text == ([]:Str))))) (p:=true) (q:=(!t16)) rfl rfl (fun hp18 => rfl) (fun hp18 => (cT (f_beq hp18)))) (pickOr (((a0.Kind != 1) || (decide (a1 > 24))) || (!(a0.Text == ([]:Str)))) (!t16))) rfl rfl ?_
     refine .rn 1 ?_
     refine OpsOk.consI rfl rfl rfl (.one rfl) rfl (fun hw19 => (VOk.g (VOk.to (VOk.fieldB rfl Try.underlying27 rfl sz24 rfl rfl) rfl))) ?_
     refine OpsOk.consI rfl rfl rfl (.one rfl) rfl (fun hw19 => (GOk.fr (fr':=[(74,(.bref 4 3))]) ⟨DLe.of_eq (cT hw19).symm,trivial⟩ (VOk.g (VOk.loadB (d:=(L 3 e_api_Attr a0.Attrs)) rfl Try.underlying24 rfl rfl rfl rfl)))) ?_
     refine OpsOk.consI rfl rfl rfl (.one rfl) rfl (fun hw19 => (GOk.fr (fr':=[(75,(L 3 e_api_Attr a0.Attrs))]) ⟨DLe.of_eq (cT hw19).symm,trivial⟩ (GOk.call rfl rfl cl49 rfl (tree_attrs.ok (ifT h21 hw19)) rfl))) ?_
     refine OpsOk.consI rfl rfl rfl (.one rfl) rfl (fun hw19 => (GOk.fr (fr':=[(76,(.v (.bool t20)))]) ⟨DLe.of_eq (cT hw19).symm,trivial⟩ (VOk.g (VOk.not (b:=t20) rfl rfl)))) ?_
     refine .cv (VOk.to (VOk.pickI (b:=((((a0.Kind != 1) || (decide (a1 > 24))) || (!(a0.Text == ([]:Str)))) || (!t16))) (p:=true) (q:=(!t20)) rfl rfl (fun hp22 => rfl) (fun hp22 => (cT (f_beq hp22)))) (pickOr ((((a0.Kind != 1) || (decide (a1 > 24))) || (!(a0.Text == ([]:Str)))) || (!t16)) (!t20))) rfl rfl ?_
     refine .rn 1 ?_
     exact .dn
    refine Ok.test (b:=(((((a0.Kind != 1) || (decide (a1 > 24))) || (!(a0.Text == ([]:Str)))) || (!t16)) || (!t20))) rfl (fun hb35 => ?_) (fun hb35 => ?_)
    ·replace H:=ifT H hb35
     refine Ok.seq ?_
     refine .rg [(8,(.v (.bool false)))] [(3,(.box (.at b) [(.v (.int .i64 (IntKind.i64.wrap (a3 - 1))))]))] ?_
     refine Ok.ret ?_
     obtain rfl:=Option.some.inj H
     exact⟨.inl rfl,⟨_,(.cons (.tmp rfl) .nil),rfl⟩,⟨.same _,trivial⟩⟩
    ·replace H:=ifF H hb35
     refine Ok.skip ?_
     refine Ok.seq ?_
     refine .rg [(1,(.v (.int .i64 a1))),(3,(.bref 3 0)),(4,(.bref 4 0)),(9,(.v (.bool false)))] [(3,(.box (.at b) [(.v (.int .i64 (IntKind.i64.wrap (a3 - 1))))])),(4,(bxN a0))] ?_
     refine Ok.seq ?_
     refine Ok.seq ?_
     refine Ok.region (σ':=⟨[(1,(.v (.int .i64 a1))),(3,(.bref 3 0)),(9,(.v (.bool false))),(80,(L 6 e_api_Node a0.Kids)),(81,(.v (.int .i64 (a0.Kids.length:Int)))),(82,(.v (.int .i64 0)))],[(3,(.box (.at b) [(.v (.int .i64 (IntKind.i64.wrap (a3 - 1))))]))]⟩) ?_ ?_
     ·refine .rn 2 ?_
      refine .cv (VOk.lenL (e:=e_api_Node) (xs:=a0.Kids) rfl Try.underlying25 rfl) rfl rfl ?_
      refine .rn 1 ?_
      exact .dn
     refine Ok.block ?_
     refine Ok.loop (fun m29 σ => ∃ (y3_0_25:Int) (x82_24:Int) (x9_23:Bool),σ=⟨[(1,(.v (.int .i64 a1))),(3,(.bref 3 0)),(9,(.v (.bool x9_23))),(80,(L 6 e_api_Node a0.Kids)),(81,(.v (.int .i64 (a0.Kids.length:Int)))),(82,(.v (.int .i64 x82_24)))],[(3,(.box (.at b) [(.v (.int .i64 y3_0_25))]))]⟩ ∧ tree_right.l0 k (tree_right k) a0 a1 m29 y3_0_25 x82_24 x9_23=some r) k ⟨(IntKind.i64.wrap (a3 - 1)),0,false,rfl,H⟩ ?_
     rintro m29 σ ⟨y3_0_25,x82_24,x9_23,rfl,H⟩
     cases m29 with
     | zero => exact absurd H (by simp [tree_right.l0])
     | succ m29 =>
      unfold tree_right.l0 at H
      refine Ok.seq ?_
      refine .rg [(1,(.v (.int .i64 a1))),(3,(.bref 3 0)),(9,(.v (.bool x9_23))),(80,(L 6 e_api_Node a0.Kids)),(81,(.v (.int .i64 (a0.Kids.length:Int)))),(82,(.v (.int .i64 x82_24))),(83,(.v (.bool (decide (x82_24 < (a0.Kids.length:Int))))))] [(3,(.box (.at b) [(.v (.int .i64 y3_0_25))]))] ?_
      refine Ok.seq ?_
      refine Ok.test (b:=(decide (x82_24 < (a0.Kids.length:Int)))) rfl (fun hb34 => ?_) (fun hb34 => ?_)
      ·replace H:=ifT H hb34
       refine Ok.skip ?_
       refine Ok.seq ?_
       refine Ok.block ?_
       refine Ok.seq ?_
       obtain⟨c30,H⟩:=assertE H
       refine Ok.region (σ':=⟨[(1,(.v (.int .i64 a1))),(3,(.bref 3 0)),(9,(.v (.bool x9_23))),(11,(.bref 11 0)),(80,(L 6 e_api_Node a0.Kids)),(81,(.v (.int .i64 (a0.Kids.length:Int)))),(82,(.v (.int .i64 x82_24)))],[(3,(.box (.at b) [(.v (.int .i64 y3_0_25))])),(11,(.box .ex (c_api_Node (rd a0.Kids x82_24))))]⟩) ?_ ?_
       ·refine .cv (VOk.indexL (sz:=6) (e:=e_api_Node) (xs:=a0.Kids) (i:=x82_24) rfl Try.underlying25 sz27 rfl rfl c30) rfl rfl ?_
        refine .rn 2 ?_
        refine OpsOk.cut1 85 (.agg [(.v (.int .i64 ((rd a0.Kids x82_24).Kind))),(S ((rd a0.Kids x82_24).Name.Space)),(S ((rd a0.Kids x82_24).Name.Local)),(L 3 e_api_Attr ((rd a0.Kids x82_24).Attrs)),(L 6 e_api_Node ((rd a0.Kids x82_24).Kids)),(S ((rd a0.Kids x82_24).Text))]) (DLe.of_eq (congrArg D.agg (e_api_Node_c _).symm)) ?_
        refine .rn 1 ?_
        exact .dn
       refine Ok.seq ?_
       refine Ok.seq ?_
       obtain⟨t31,h32,H⟩:=bindE H
       refine Ok.region (σ':=⟨[(1,(.v (.int .i64 a1))),(3,(.bref 3 0)),(11,(.bref 11 0)),(80,(L 6 e_api_Node a0.Kids)),(81,(.v (.int .i64 (a0.Kids.length:Int)))),(82,(.v (.int .i64 x82_24))),(92,(.v (.bool (!t31.1))))],[(3,(.box (.at b) [(.v (.int .i64 t31.2))])),(11,(.box .ex (c_api_Node (rd a0.Kids x82_24))))]⟩) ?_ ?_
       ·refine .cv (VOk.to (d':=(.agg (e_api_Node (rd a0.Kids x82_24)))) (.loadBAgg rfl Try.underlying27 rfl sz27 rfl rfl rfl) (congrArg D.agg (e_api_Node_c (rd a0.Kids x82_24)).symm)) rfl rfl ?_
        refine .rn 4 ?_
        refine OpsOk.cons rfl (OpOk.callB (e:=(.at b)) (ds0:=[(.agg (e_api_Node (rd a0.Kids x82_24))),(.v (.int .i64 (IntKind.i64.wrap (a1 + 1)))),(.v (.bool x9_23)),(.bref 3 0)]) 3 rfl (.same _) cl29 (fun b => ((@ih _ _ _ _ _ h32) b)) rfl ⟨.same _,.same _,.same _,.same _,trivial⟩ rfl rfl rfl rfl rfl) ?_
        refine .rn 1 ?_
        exact .dn
       refine Ok.test (b:=(!t31.1)) rfl (fun hb33 => ?_) (fun hb33 => ?_)
       ·replace H:=ifT H hb33
        refine Ok.seq ?_
        refine .rg [(8,(.v (.bool false)))] [(3,(.box (.at b) [(.v (.int .i64 t31.2))]))] ?_
        refine Ok.ret ?_
        obtain rfl:=Option.some.inj H
        exact⟨.inl rfl,⟨_,(.cons (.tmp rfl) .nil),rfl⟩,⟨.same _,trivial⟩⟩
       ·replace H:=ifF H hb33
        refine Ok.skip ?_
        refine .rg [(1,(.v (.int .i64 a1))),(3,(.bref 3 0)),(9,(.v (.bool (((rd a0.Kids x82_24).Kind) == 2)))),(80,(L 6 e_api_Node a0.Kids)),(81,(.v (.int .i64 (a0.Kids.length:Int)))),(82,(.v (.int .i64 x82_24)))] [(3,(.box (.at b) [(.v (.int .i64 t31.2))]))] ?_
        refine .rg [(1,(.v (.int .i64 a1))),(3,(.bref 3 0)),(9,(.v (.bool (((rd a0.Kids x82_24).Kind) == 2)))),(80,(L 6 e_api_Node a0.Kids)),(81,(.v (.int .i64 (a0.Kids.length:Int)))),(82,(.v (.int .i64 (IntKind.i64.wrap (x82_24 + 1)))))] [(3,(.box (.at b) [(.v (.int .i64 t31.2))]))] ?_
        exact⟨m29,Nat.lt_succ_self m29,t31.2,(IntKind.i64.wrap (x82_24 + 1)),(((rd a0.Kids x82_24).Kind) == 2),rfl,H⟩
      ·replace H:=ifF H hb34
       refine Ok.exit ?_
       refine Ok.seq ?_
       refine .rg [(8,(.v (.bool true)))] [(3,(.box (.at b) [(.v (.int .i64 y3_0_25))]))] ?_
       refine Ok.ret ?_
       obtain rfl:=Option.some.inj H
       exact⟨.inl rfl,⟨_,(.cons (.tmp rfl) .nil),rfl⟩,⟨.same _,trivial⟩⟩
def tree_Right (k:Nat) (a0:T_api_Node):Option Bool:=(if (a0.Kind == 1)=true then ((tree_right k a0 1 false 2000).bind fun (t4:Bool × Int) => some t4.1) else some false)
theorem tree_Right.ok {k:Nat} {a0:T_api_Node} {r:Bool} (H:tree_Right k a0=some r):Vx.Fn Try.prog 15 [(.agg (e_api_Node a0))] [] (.v (.bool r)) []:=by
 unfold tree_Right at H
 refine Vx.Fn.of_okR Try.func15 rfl (Nat.le_of_ble_eq_true rfl) ?_
 refine Ok.seq ?_
 refine Ok.region (σ':=⟨[(1,(.bref 1 0))],[(1,(bxN a0))]⟩) ?_ ?_
 ·refine OpsOk.cut1 0 (.agg (c_api_Node a0)) (DLe.of_eq (congrArg D.agg (e_api_Node_c _).symm)) ?_
  refine .rn 2 ?_
  exact .dn
 refine Ok.seq ?_
 refine .rg [(1,(.bref 1 0)),(3,(.bref 3 0))] [(1,(bxN a0)),(3,(.box .ex [(.v (.int .i64 2000))]))] ?_
 refine Ok.seq ?_
 refine Ok.regionC ?_
 refine OpsC.cons rfl (.v (VOk.to (VOk.fieldB rfl Try.underlying27 rfl sz3 rfl rfl) rfl) rfl) ?_
 refine OpsC.cons rfl (.v (VOk.loadB (d:=(.v (.int .i64 a0.Kind))) rfl Try.underlying3 rfl rfl rfl rfl) rfl) ?_
 refine OpsC.cons rfl (.v (VOk.arith (op:=.eql) (k:=.i64) (a:=a0.Kind) (b:=1) rfl rfl rfl rfl) rfl) ?_
 refine OpsC.cons rfl (.v (VOk.mv (d:=(.v (.bool (a0.Kind == 1)))) rfl rfl) rfl) ?_
 refine OpsC.consI rfl rfl rfl (.one rfl) rfl (fun hw1 => (VOk.g (VOk.to (d':=(.agg (e_api_Node a0))) (.loadBAgg rfl Try.underlying27 rfl sz27 rfl rfl rfl) (congrArg D.agg (e_api_Node_c a0).symm)))) ?_
 refine OpsC.split ((a0.Kind == 1)) (fun hT2 => ?_) (fun hF3 => ?_)
 ·replace H:=ifT H hT2
  obtain⟨t4,h5,H⟩:=bindE H
  refine OpsC.cut (σ:=⟨[(3,(.bref 3 0)),(7,(.v (.bool (a0.Kind == 1)))),(8,(.agg (e_api_Node a0)))],[(3,(.box .ex [(.v (.int .i64 2000))]))]⟩) (.mk ⟨.same _,.same _,DLe.of_eq (cT (t_beq hT2)).symm,trivial⟩ ⟨.same _,trivial⟩) ?_
  refine OpsC.consG rfl rfl rfl rfl hT2 (OpOk.callB (e:=.ex) (ds0:=[(.agg (e_api_Node a0)),(.v (.int .i64 1)),(.v (.bool false)),(.bref 3 0)]) 3 rfl (.same _) cl29 (fun b => ((tree_right.ok h5) b)) rfl ⟨.same _,.same _,.same _,.same _,trivial⟩ rfl rfl rfl rfl rfl) ?_
  refine OpsC.cons rfl (.v (VOk.pickT (d:=(.v (.bool t4.1))) rfl rfl hT2 rfl) rfl) ?_
  refine OpsC.cons rfl (.v (VOk.asg (d:=(.v (.bool t4.1))) rfl rfl) rfl) ?_
  refine OpsC.done (σ':=⟨[(2,(.v (.bool t4.1)))],[]⟩) (.rf rfl rfl) ?_
  refine Ok.ret ?_
  obtain rfl:=Option.some.inj H
  exact⟨.inl rfl,⟨_,(.cons (.tmp rfl) .nil),rfl⟩,trivial⟩
 ·replace H:=ifF H hF3
  refine OpsC.cut (σ:=⟨[(3,(.bref 3 0)),(7,(.v (.bool (a0.Kind == 1))))],[(3,(.box .ex [(.v (.int .i64 2000))]))]⟩) (.mk ⟨.same _,.same _,trivial⟩ ⟨.same _,trivial⟩) ?_
  refine OpsC.consN rfl rfl rfl rfl hF3 rfl ?_
  refine OpsC.cons rfl (.v (VOk.pickF (d:=(.v (.bool false))) rfl rfl hF3 rfl) rfl) ?_
  refine OpsC.cons rfl (.v (VOk.asg (d:=(.v (.bool false))) rfl rfl) rfl) ?_
  refine OpsC.done (σ':=⟨[(2,(.v (.bool false)))],[]⟩) (.rf rfl rfl) ?_
  refine Ok.ret ?_
  obtain rfl:=Option.some.inj H
  exact⟨.inl rfl,⟨_,(.cons (.tmp rfl) .nil),rfl⟩,trivial⟩
def watchbillref04_Deep.l0 (k:Nat) (self:T_api_Node→Int→Option Int) (a1:Int):Nat→Int→Str→Str→List T_api_Attr→List T_api_Node→Str→Int→Int→Option Int
 | 0,_,_,_,_,_,_,_,_ => none
 | m19 + 1,y2_0_5,y2_1_6,y2_2_7,y2_3_8,y2_4_9,y2_5_10,x5_3,x6_4 => (if (decide (x6_4 < (y2_4_9.length:Int)))=true then (if (0:Int) ≤ x6_4 ∧ x6_4 < (y2_4_9.length:Int) then ((self (rd y2_4_9 x6_4) (IntKind.i64.wrap (a1 - 1))).bind fun (t21:Int) => (if (decide (t21 > x5_3))=true then watchbillref04_Deep.l0 k self a1 m19 y2_0_5 y2_1_6 y2_2_7 y2_3_8 y2_4_9 y2_5_10 t21 (IntKind.i64.wrap (x6_4 + 1)) else watchbillref04_Deep.l0 k self a1 m19 y2_0_5 y2_1_6 y2_2_7 y2_3_8 y2_4_9 y2_5_10 x5_3 (IntKind.i64.wrap (x6_4 + 1)))) else none) else some (IntKind.i64.wrap (x5_3 + 1)))
def watchbillref04_Deep:Nat→T_api_Node→Int→Option Int
 | 0,_,_ => none
 | k + 1,a0,a1 => (if ((a0.Kind != 1) || (decide (a1 < 0)))=true then some 0 else watchbillref04_Deep.l0 k (watchbillref04_Deep k) a1 k a0.Kind a0.Name.Space a0.Name.Local a0.Attrs a0.Kids a0.Text 0 0)
theorem watchbillref04_Deep.ok {k:Nat} {a0:T_api_Node} {a1:Int} {r:Int} (H:watchbillref04_Deep k a0 a1=some r):Vx.Fn Try.prog 32 [(.agg (e_api_Node a0)),(.v (.int .i64 a1))] [] (.v (.int .i64 r)) []:=by
 induction k generalizing a0 a1 r with
 | zero => exact absurd H (by simp [watchbillref04_Deep])
 | succ k ih =>
  unfold watchbillref04_Deep at H
  refine Vx.Fn.of_okR Try.func32 rfl (Nat.le_of_ble_eq_true rfl) ?_
  refine Ok.seq ?_
  refine Ok.region (σ':=⟨[(1,(.v (.int .i64 a1))),(2,(.bref 2 0))],[(2,(bxN a0))]⟩) ?_ ?_
  ·refine OpsOk.cut1 0 (.agg (c_api_Node a0)) (DLe.of_eq (congrArg D.agg (e_api_Node_c _).symm)) ?_
   refine .rn 2 ?_
   exact .dn
  refine Ok.seq ?_
  refine Ok.seq ?_
  refine Ok.region (σ':=⟨[(1,(.v (.int .i64 a1))),(2,(.bref 2 0)),(14,(.v (.bool ((a0.Kind != 1) || (decide (a1 < 0))))))],[(2,(bxN a0))]⟩) ?_ ?_
  ·refine .rn 4 ?_
   refine OpsOk.consI rfl rfl rfl (.one rfl) rfl (fun hw1 => (VOk.g (VOk.mv (d:=(.v (.int .i64 a1))) rfl rfl))) ?_
   refine OpsOk.consI rfl rfl rfl (.one rfl) rfl (fun hw1 => (GOk.fr (fr':=[(12,(.v (.int .i64 a1)))]) ⟨DLe.of_eq (cT hw1).symm,trivial⟩ (VOk.g (VOk.arith (op:=.lss) (k:=.i64) (a:=a1) (b:=0) rfl rfl rfl rfl)))) ?_
   refine .cv (VOk.to (VOk.pickI (b:=(a0.Kind != 1)) (p:=true) (q:=(decide (a1 < 0))) rfl rfl (fun hp2 => rfl) (fun hp2 => (cT (f_beq hp2)))) (pickOr (a0.Kind != 1) (decide (a1 < 0)))) rfl rfl ?_
   exact .dn
  refine Ok.test (b:=((a0.Kind != 1) || (decide (a1 < 0)))) rfl (fun hb25 => ?_) (fun hb25 => ?_)
  ·replace H:=ifT H hb25
   refine Ok.seq ?_
   refine .rg [(4,(.v (.int .i64 0)))] [] ?_
   refine Ok.ret ?_
   obtain rfl:=Option.some.inj H
   exact⟨.inl rfl,⟨_,(.cons (.tmp rfl) .nil),rfl⟩,trivial⟩
  ·replace H:=ifF H hb25
   refine Ok.skip ?_
   refine Ok.seq ?_
   refine .rg [(1,(.v (.int .i64 a1))),(2,(.bref 2 0)),(5,(.v (.int .i64 0)))] [(2,(bxN a0))] ?_
   refine Ok.seq ?_
   refine Ok.seq ?_
   refine .rg [(1,(.v (.int .i64 a1))),(2,(.bref 2 0)),(5,(.v (.int .i64 0))),(6,(.v (.int .i64 0)))] [(2,(bxN a0))] ?_
   refine Ok.block ?_
   refine Ok.loop (fun m19 σ => ∃ (y2_0_5:Int) (y2_1_6:Str) (y2_2_7:Str) (y2_3_8:List T_api_Attr) (y2_4_9:List T_api_Node) (y2_5_10:Str) (x5_3:Int) (x6_4:Int),σ=⟨[(1,(.v (.int .i64 a1))),(2,(.bref 2 0)),(5,(.v (.int .i64 x5_3))),(6,(.v (.int .i64 x6_4)))],[(2,(.box .ex [(.v (.int .i64 y2_0_5)),(S y2_1_6),(S y2_2_7),(L 3 e_api_Attr y2_3_8),(L 6 e_api_Node y2_4_9),(S y2_5_10)]))]⟩ ∧ watchbillref04_Deep.l0 k (watchbillref04_Deep k) a1 m19 y2_0_5 y2_1_6 y2_2_7 y2_3_8 y2_4_9 y2_5_10 x5_3 x6_4=some r) k ⟨a0.Kind,a0.Name.Space,a0.Name.Local,a0.Attrs,a0.Kids,a0.Text,0,0,rfl,H⟩ ?_
   rintro m19 σ ⟨y2_0_5,y2_1_6,y2_2_7,y2_3_8,y2_4_9,y2_5_10,x5_3,x6_4,rfl,H⟩
   cases m19 with
   | zero => exact absurd H (by simp [watchbillref04_Deep.l0])
   | succ m19 =>
    unfold watchbillref04_Deep.l0 at H
    refine Ok.seq ?_
    refine Ok.seq ?_
    refine Ok.region (σ':=⟨[(1,(.v (.int .i64 a1))),(2,(.bref 2 0)),(5,(.v (.int .i64 x5_3))),(6,(.v (.int .i64 x6_4))),(19,(.v (.bool (decide (x6_4 < (y2_4_9.length:Int))))))],[(2,(.box .ex [(.v (.int .i64 y2_0_5)),(S y2_1_6),(S y2_2_7),(L 3 e_api_Attr y2_3_8),(L 6 e_api_Node y2_4_9),(S y2_5_10)]))]⟩) ?_ ?_
    ·refine .rn 3 ?_
     refine .cv (VOk.lenL (e:=e_api_Node) (xs:=y2_4_9) rfl Try.underlying25 rfl) rfl rfl ?_
     refine .rn 1 ?_
     exact .dn
    refine Ok.test (b:=(decide (x6_4 < (y2_4_9.length:Int)))) rfl (fun hb24 => ?_) (fun hb24 => ?_)
    ·replace H:=ifT H hb24
     refine Ok.skip ?_
     refine Ok.seq ?_
     refine Ok.block ?_
     refine Ok.seq ?_
     obtain⟨c20,H⟩:=assertE H
     obtain⟨t21,h22,H⟩:=bindE H
     refine Ok.region (σ':=⟨[(1,(.v (.int .i64 a1))),(2,(.bref 2 0)),(5,(.v (.int .i64 x5_3))),(6,(.v (.int .i64 x6_4))),(7,(.v (.int .i64 t21)))],[(2,(.box .ex [(.v (.int .i64 y2_0_5)),(S y2_1_6),(S y2_2_7),(L 3 e_api_Attr y2_3_8),(L 6 e_api_Node y2_4_9),(S y2_5_10)]))]⟩) ?_ ?_
     ·refine .rn 3 ?_
      refine .cv (VOk.indexL (sz:=6) (e:=e_api_Node) (xs:=y2_4_9) (i:=x6_4) rfl Try.underlying25 sz27 rfl rfl c20) rfl rfl ?_
      refine .rn 3 ?_
      refine .cg (GOk.call rfl rfl cl32 rfl (@ih _ _ _ h22) rfl) rfl rfl ?_
      refine .rn 1 ?_
      exact .dn
     refine Ok.seq ?_
     refine .rg [(1,(.v (.int .i64 a1))),(2,(.bref 2 0)),(5,(.v (.int .i64 x5_3))),(6,(.v (.int .i64 x6_4))),(7,(.v (.int .i64 t21))),(32,(.v (.bool (decide (t21 > x5_3)))))] [(2,(.box .ex [(.v (.int .i64 y2_0_5)),(S y2_1_6),(S y2_2_7),(L 3 e_api_Attr y2_3_8),(L 6 e_api_Node y2_4_9),(S y2_5_10)]))] ?_
     refine Ok.test (b:=(decide (t21 > x5_3))) rfl (fun hb23 => ?_) (fun hb23 => ?_)
     ·replace H:=ifT H hb23
      refine .rg [(1,(.v (.int .i64 a1))),(2,(.bref 2 0)),(5,(.v (.int .i64 t21))),(6,(.v (.int .i64 x6_4)))] [(2,(.box .ex [(.v (.int .i64 y2_0_5)),(S y2_1_6),(S y2_2_7),(L 3 e_api_Attr y2_3_8),(L 6 e_api_Node y2_4_9),(S y2_5_10)]))] ?_
      refine .rg [(1,(.v (.int .i64 a1))),(2,(.bref 2 0)),(5,(.v (.int .i64 t21))),(6,(.v (.int .i64 (IntKind.i64.wrap (x6_4 + 1)))))] [(2,(.box .ex [(.v (.int .i64 y2_0_5)),(S y2_1_6),(S y2_2_7),(L 3 e_api_Attr y2_3_8),(L 6 e_api_Node y2_4_9),(S y2_5_10)]))] ?_
      exact⟨m19,Nat.lt_succ_self m19,y2_0_5,y2_1_6,y2_2_7,y2_3_8,y2_4_9,y2_5_10,t21,(IntKind.i64.wrap (x6_4 + 1)),rfl,H⟩
     ·replace H:=ifF H hb23
      refine Ok.skip ?_
      refine .rg [(1,(.v (.int .i64 a1))),(2,(.bref 2 0)),(5,(.v (.int .i64 x5_3))),(6,(.v (.int .i64 (IntKind.i64.wrap (x6_4 + 1)))))] [(2,(.box .ex [(.v (.int .i64 y2_0_5)),(S y2_1_6),(S y2_2_7),(L 3 e_api_Attr y2_3_8),(L 6 e_api_Node y2_4_9),(S y2_5_10)]))] ?_
      exact⟨m19,Nat.lt_succ_self m19,y2_0_5,y2_1_6,y2_2_7,y2_3_8,y2_4_9,y2_5_10,x5_3,(IntKind.i64.wrap (x6_4 + 1)),rfl,H⟩
    ·replace H:=ifF H hb24
     refine Ok.exit ?_
     refine Ok.seq ?_
     refine .rg [(4,(.v (.int .i64 (IntKind.i64.wrap (x5_3 + 1)))))] [] ?_
     refine Ok.ret ?_
     obtain rfl:=Option.some.inj H
     exact⟨.inl rfl,⟨_,(.cons (.tmp rfl) .nil),rfl⟩,trivial⟩
def watchbilllaw06_deep (k:Nat) (a0:T_api_Node):Option Int:=((watchbillref04_Deep k a0 30).bind fun (t1:Int) => some t1)
theorem watchbilllaw06_deep.ok {k:Nat} {a0:T_api_Node} {r:Int} (H:watchbilllaw06_deep k a0=some r):Vx.Fn Try.prog 17 [(.agg (e_api_Node a0))] [] (.v (.int .i64 r)) []:=by
 unfold watchbilllaw06_deep at H
 refine Vx.Fn.of_okR Try.func17 rfl (Nat.le_of_ble_eq_true rfl) ?_
 refine Ok.seq ?_
 refine Ok.region (σ':=⟨[(1,(.bref 1 0))],[(1,(bxN a0))]⟩) ?_ ?_
 ·refine OpsOk.cut1 0 (.agg (c_api_Node a0)) (DLe.of_eq (congrArg D.agg (e_api_Node_c _).symm)) ?_
  refine .rn 2 ?_
  exact .dn
 refine Ok.seq ?_
 obtain⟨t1,h2,H⟩:=bindE H
 refine Ok.region (σ':=⟨[(2,(.v (.int .i64 t1)))],[]⟩) ?_ ?_
 ·refine .cv (VOk.to (d':=(.agg (e_api_Node a0))) (.loadBAgg rfl Try.underlying27 rfl sz27 rfl rfl rfl) (congrArg D.agg (e_api_Node_c a0).symm)) rfl rfl ?_
  refine .cg (GOk.call rfl rfl cl32 rfl (watchbillref04_Deep.ok h2) rfl) rfl rfl ?_
  refine .rn 1 ?_
  exact .dn
 refine Ok.ret ?_
 obtain rfl:=Option.some.inj H
 exact⟨.inl rfl,⟨_,(.cons (.tmp rfl) .nil),rfl⟩,trivial⟩
def tree_bytes (a0:T_api_Name):Option Int:=some (IntKind.i64.wrap ((a0.Space.length:Int) + (a0.Local.length:Int)))
theorem tree_bytes.ok {a0:T_api_Name} {r:Int} (H:tree_bytes a0=some r):Vx.Fn Try.prog 33 [(.agg (e_api_Name a0))] [] (.v (.int .i64 r)) []:=by
 unfold tree_bytes at H
 refine Vx.Fn.of_okR Try.func33 rfl (Nat.le_of_ble_eq_true rfl) ?_
 refine Ok.seq ?_
 refine .rg [(1,(.bref 1 0))] [(1,(.box .ex [(S a0.Space),(S a0.Local)]))] ?_
 refine Ok.seq ?_
 refine .rg [(2,(.v (.int .i64 (IntKind.i64.wrap ((a0.Space.length:Int) + (a0.Local.length:Int))))))] [] ?_
 refine Ok.ret ?_
 obtain rfl:=Option.some.inj H
 exact⟨.inl rfl,⟨_,(.cons (.tmp rfl) .nil),rfl⟩,trivial⟩
end Go.Proofs.Ytjhbedgepfkdbaa.Sh
