import Derived.Test.YtapbckofgcmgmaaGreatDoorProg
import Derived.Test.YtapbckofgcmgmaaGreatDoorVxSo
import Derived.Test.YtapbckofgcmgmaaGreatDoorVxGl
import Derived.Test.YtapbckofgcmgmaaGreatDoorVxBs
import Derived.Test.YtapbckofgcmgmaaGreatDoorVxDf
import Derived.Test.YtapbckofgcmgmaaGreatDoorShelf
import Derived.Test.YtapbckofgcmgmaaGreatDoorVxAu
namespace Go.Proofs.YtapbckofgcmgmaaGreatDoor.Sh
open Go Go.RowKit Go.Proofs.Vx
set_option linter.unusedVariables false
set_option maxRecDepth 100000
set_option maxHeartbeats 1000000
structure T_api_Entry where
 Kind:Int
 URI:Str
 Name:Str
 List_:List T_api_Entry
 deriving Inhabited
mutual
def r_api_Entry:T_api_Entry→List D
 | .mk x0 x1 x2 x3 => [(.v (.int .i64 x0)),(S x1),(S x2),(.list 4 (r_api_EntryL x3))]
def r_api_EntryL:List T_api_Entry→List (List D)
 | [] => []
 | x :: xs => r_api_Entry x :: r_api_EntryL xs
end
theorem r_api_EntryL_eq:∀ xs,r_api_EntryL xs=xs.map r_api_Entry
 | [] => rfl
 | x :: xs => by rw [r_api_EntryL,r_api_EntryL_eq xs]; rfl
def e_api_Entry (x:T_api_Entry):List D:=[(.v (.int .i64 x.Kind)),(S x.URI),(S x.Name),(L 4 r_api_Entry x.List_)]
theorem r_api_Entry_eq:r_api_Entry=e_api_Entry:=funext fun x => by cases x; rw [r_api_Entry]; simp only [r_api_EntryL_eq]; rfl
theorem e_api_Entry_c (x:T_api_Entry):e_api_Entry x=[(.v (.int .i64 x.Kind)),(S x.URI),(S x.Name),(L 4 e_api_Entry x.List_)]:=by show [(.v (.int .i64 x.Kind)),(S x.URI),(S x.Name),(L 4 r_api_Entry x.List_)]=_; simp only [r_api_Entry_eq]
structure T_api_Name where
 Space:Str
 Local:Str
 deriving Inhabited
def e_api_Name (x:T_api_Name):List D:=[(S x.Space),(S x.Local)]
structure T_api_Attr where
 Name:T_api_Name
 Value:Str
 deriving Inhabited
def e_api_Attr (x:T_api_Attr):List D:=[(S x.Name.Space),(S x.Name.Local),(S x.Value)]
structure T_api_Node where
 Kind:Int
 Name:T_api_Name
 Attrs:List T_api_Attr
 Kids:List T_api_Node
 Text:Str
 deriving Inhabited
mutual
def r_api_Node:T_api_Node→List D
 | .mk x0 x1 x2 x3 x4 => [(.v (.int .i64 x0)),(S x1.Space),(S x1.Local),(L 3 e_api_Attr x2),(.list 6 (r_api_NodeL x3)),(S x4)]
def r_api_NodeL:List T_api_Node→List (List D)
 | [] => []
 | x :: xs => r_api_Node x :: r_api_NodeL xs
end
theorem r_api_NodeL_eq:∀ xs,r_api_NodeL xs=xs.map r_api_Node
 | [] => rfl
 | x :: xs => by rw [r_api_NodeL,r_api_NodeL_eq xs]; rfl
def e_api_Node (x:T_api_Node):List D:=[(.v (.int .i64 x.Kind)),(S x.Name.Space),(S x.Name.Local),(L 3 e_api_Attr x.Attrs),(L 6 r_api_Node x.Kids),(S x.Text)]
theorem r_api_Node_eq:r_api_Node=e_api_Node:=funext fun x => by cases x; rw [r_api_Node]; simp only [r_api_NodeL_eq]; rfl
theorem e_api_Node_c (x:T_api_Node):e_api_Node x=[(.v (.int .i64 x.Kind)),(S x.Name.Space),(S x.Name.Local),(L 3 e_api_Attr x.Attrs),(L 6 e_api_Node x.Kids),(S x.Text)]:=by show [(.v (.int .i64 x.Kind)),(S x.Name.Space),(S x.Name.Local),(L 3 e_api_Attr x.Attrs),(L 6 r_api_Node x.Kids),(S x.Text)]=_; simp only [r_api_Node_eq]
structure T_api_Raw where
 Name:Str
 Value:Str
 deriving Inhabited
def e_api_Raw (x:T_api_Raw):List D:=[(S x.Name),(S x.Value)]
structure T_api_Token where
 Kind:Int
 At:Int
 Name:Str
 Attrs:List T_api_Raw
 Text:Str
 deriving Inhabited
def e_api_Token (x:T_api_Token):List D:=[(.v (.int .i64 x.Kind)),(.v (.int .i64 x.At)),(S x.Name),(L 2 e_api_Raw x.Attrs),(S x.Text)]
structure T_utf_span where
 From_:Int
 To_:Int
 deriving Inhabited
def e_utf_span (x:T_utf_span):List D:=[(.v (.int .i32 x.From_)),(.v (.int .i32 x.To_))]
structure T_lex_lexer where
 S_:Str
 At_:Int
 L_:List T_api_Token
 deriving Inhabited
def e_lex_lexer (x:T_lex_lexer):List D:=[(S x.S_),(.v (.int .i64 x.At_)),(L 5 e_api_Token x.L_)]
structure T_strings_Builder where
 Buf_:List Int
 deriving Inhabited
def e_strings_Builder (x:T_strings_Builder):List D:=[.junk,(L 1 (eI .u8) x.Buf_)]
structure T_api_Bind where
 Prefix:Str
 Space:Str
 deriving Inhabited
def e_api_Bind (x:T_api_Bind):List D:=[(S x.Prefix),(S x.Space)]
structure T_raw_api_Node where
 Kind:Int
 Name:T_api_Name
 Attrs:List T_api_Attr
 Kids:Value
 Text:Str
 deriving Inhabited
def e_raw_api_Node (x:T_raw_api_Node):List D:=[(.v (.int .i64 x.Kind)),(S x.Name.Space),(S x.Name.Local),(L 3 e_api_Attr x.Attrs),(.v x.Kids),(S x.Text)]
structure T_tree_frame where
 Tag_:Str
 Scope_:List T_api_Bind
 N_:T_raw_api_Node
 deriving Inhabited
def e_tree_frame (x:T_tree_frame):List D:=[(S x.Tag_),(L 2 e_api_Bind x.Scope_),(.v (.int .i64 x.N_.Kind)),(S x.N_.Name.Space),(S x.N_.Name.Local),(L 3 e_api_Attr x.N_.Attrs),(.v x.N_.Kids),(S x.N_.Text)]
structure T_tree_builder where
 Open_:List T_tree_frame
 Root_:T_api_Node
 Done_:Bool
 Nodes_:Int
 deriving Inhabited
def e_tree_builder (x:T_tree_builder):List D:=[(L 8 e_tree_frame x.Open_),(.v (.int .i64 x.Root_.Kind)),(S x.Root_.Name.Space),(S x.Root_.Name.Local),(L 3 e_api_Attr x.Root_.Attrs),(L 6 e_api_Node x.Root_.Kids),(S x.Root_.Text),(.v (.bool x.Done_)),(.v (.int .i64 x.Nodes_))]
structure T_lists_key where
 Kind_:Int
 Text_:Str
 deriving Inhabited
def e_lists_key (x:T_lists_key):List D:=[(.v (.int .i64 x.Kind_)),(S x.Text_)]
def c_api_Entry (x:T_api_Entry):List D:=[(.v (.int .i64 x.Kind)),(S x.URI),(S x.Name),(L 4 e_api_Entry x.List_)]
def c_api_Attr (x:T_api_Attr):List D:=[(S x.Name.Space),(S x.Name.Local),(S x.Value)]
def c_api_Node (x:T_api_Node):List D:=[(.v (.int .i64 x.Kind)),(S x.Name.Space),(S x.Name.Local),(L 3 e_api_Attr x.Attrs),(L 6 e_api_Node x.Kids),(S x.Text)]
abbrev S0:D:=S ([]:Str)
abbrev z0N:List D:=[(.v (.int .i64 0)),(S ([]:Str)),(S ([]:Str)),(L 3 e_api_Attr ([]:List T_api_Attr)),(L 6 e_api_Node ([]:List T_api_Node)),(S ([]:Str))]
abbrev bx0:Ob:=.box .ex z0N
abbrev bxN (x:T_api_Node):Ob:=.box .ex (c_api_Node x)
abbrev c1N (x:T_api_Node):List D:=[(.v (.int .i64 x.Kind)),(S x.Name.Space),(S x.Name.Local),(L 3 e_api_Attr x.Attrs),(.sref 1024),(S x.Text)]
abbrev nN0:T_api_Node:=(T_api_Node.mk 0 (T_api_Name.mk ([]:Str) ([]:Str)) ([]:List T_api_Attr) ([]:List T_api_Node) ([]:Str))
abbrev nE0:T_api_Entry:=(T_api_Entry.mk 0 ([]:Str) ([]:Str) ([]:List T_api_Entry))
abbrev nT0 (s:Str):List T_api_Node:=([(T_api_Node.mk 2 (T_api_Name.mk ([]:Str) ([]:Str)) ([]:List T_api_Attr) ([]:List T_api_Node) s)]:List T_api_Node)
abbrev lxB (b:Nat) (x:T_lex_lexer):Ob:=.box (.at b) [(S x.S_),(.v (.int .i64 x.At_)),(.sref 1002)]
abbrev tbB (b:Nat) (x:T_tree_builder):Ob:=.box (.at b) [(.sref 1000),(.v (.int .i64 x.Root_.Kind)),(S x.Root_.Name.Space),(S x.Root_.Name.Local),(L 3 e_api_Attr x.Root_.Attrs),(L 6 e_api_Node x.Root_.Kids),(S x.Root_.Text),(.v (.bool x.Done_)),(.v (.int .i64 x.Nodes_))]
def c_api_Token (x:T_api_Token):List D:=[(.v (.int .i64 x.Kind)),(.v (.int .i64 x.At)),(S x.Name),(L 2 e_api_Raw x.Attrs),(S x.Text)]
instance:Glo:=Glo.vars Tryz.prog [0] []
theorem mixed:Tryz.prog.follows .mixedOrders=true:=by kernel_rfl
theorem zo28:zeroOf Tryz.prog 28=some (.agg #[(.int .i64 0),(.string (ba [])),(.string (ba [])),(.slice none 0 0),(.slice none 0 0),(.string (ba []))]):=by kernel_rfl
theorem zo69:zeroOf Tryz.prog 69=some (.slice none 0 0):=by kernel_rfl
theorem zo3:zeroOf Tryz.prog 3=some (.int .i64 0):=by kernel_rfl
theorem zo32:zeroOf Tryz.prog 32=some (.int .i64 0):=by kernel_rfl
theorem cl77:callable Tryz.prog 77=true:=by kernel_rfl
theorem cl78:callable Tryz.prog 78=true:=by kernel_rfl
theorem cl79:callable Tryz.prog 79=true:=by kernel_rfl
theorem cl59:callable Tryz.prog 59=true:=by kernel_rfl
theorem cl45:callable Tryz.prog 45=true:=by kernel_rfl
theorem sz21:szOf Tryz.prog 21=some 1:=by kernel_rfl
theorem fa126 {fs:Array Field} (h:Tryz.prog.underlying 126=some (.struct fs)):fieldsAt Tryz.prog fs [(0,1),(1,1)]:=by rw [Tryz.underlying126] at h; cases h; unfold fieldsAt; kernel_rfl
theorem zo126:zeroOf Tryz.prog 126=some (.agg #[(.int .i32 0),(.int .i32 0)]):=by kernel_rfl
theorem sz126:szOf Tryz.prog 126=some 2:=by kernel_rfl
theorem zs126:(zeroOf Tryz.prog 126).map (fun z => z.cells.size)=some 2:=by kernel_rfl
theorem cl80:callable Tryz.prog 80=true:=by kernel_rfl
theorem cl60:callable Tryz.prog 60=true:=by kernel_rfl
theorem cl46:callable Tryz.prog 46=true:=by kernel_rfl
theorem sz9:szOf Tryz.prog 9=some 1:=by kernel_rfl
theorem sz3:szOf Tryz.prog 3=some 1:=by kernel_rfl
theorem sz69:szOf Tryz.prog 69=some 1:=by kernel_rfl
theorem fa94 {fs:Array Field} (h:Tryz.prog.underlying 94=some (.struct fs)):fieldsAt Tryz.prog fs [(0,1),(1,1),(2,1)]:=by rw [Tryz.underlying94] at h; cases h; unfold fieldsAt; kernel_rfl
theorem zo94:zeroOf Tryz.prog 94=some (.agg #[(.string (ba [])),(.int .i64 0),(.slice none 0 0)]):=by kernel_rfl
theorem cl48:callable Tryz.prog 48=true:=by kernel_rfl
theorem cl81:callable Tryz.prog 81=true:=by kernel_rfl
theorem cl61:callable Tryz.prog 61=true:=by kernel_rfl
theorem cl49:callable Tryz.prog 49=true:=by kernel_rfl
theorem cl51:callable Tryz.prog 51=true:=by kernel_rfl
theorem cl68:callable Tryz.prog 68=true:=by kernel_rfl
theorem cl88:callable Tryz.prog 88=true:=by kernel_rfl
theorem xt120:Extern.find Tryz.f120=some Extern.BytealgIndexByte.indexByte:=by kernel_rfl
theorem cl103:callable Tryz.prog 103=true:=by kernel_rfl
theorem cl91:callable Tryz.prog 91=true:=by kernel_rfl
theorem cl89:callable Tryz.prog 89=true:=by kernel_rfl
theorem cl62:callable Tryz.prog 62=true:=by kernel_rfl
theorem sz76:szOf Tryz.prog 76=some 1:=by kernel_rfl
theorem fa78 {fs:Array Field} (h:Tryz.prog.underlying 78=some (.struct fs)):fieldsAt Tryz.prog fs [(0,1),(1,1),(2,1),(3,1),(4,1)]:=by rw [Tryz.underlying78] at h; cases h; unfold fieldsAt; kernel_rfl
theorem zo78:zeroOf Tryz.prog 78=some (.agg #[(.int .i64 0),(.int .i64 0),(.string (ba [])),(.slice none 0 0),(.string (ba []))]):=by kernel_rfl
theorem sz78:szOf Tryz.prog 78=some 5:=by kernel_rfl
theorem zs78:(zeroOf Tryz.prog 78).map (fun z => z.cells.size)=some 5:=by kernel_rfl
theorem by78:bytesOf Tryz.prog 78=some 72:=by kernel_rfl
theorem elt78:Elt Tryz.prog 78 5 72:=.mk' sz78 by78 zs78 rfl
theorem cl69:callable Tryz.prog 69=true:=by kernel_rfl
theorem zo132:zeroOf Tryz.prog 132=some (.agg #[(.string (ba [])),(.string (ba []))]):=by kernel_rfl
theorem cl90:callable Tryz.prog 90=true:=by kernel_rfl
theorem zo155:zeroOf Tryz.prog 155=some (.agg #[(.pointer none),(.slice none 0 0)]):=by kernel_rfl
theorem xt139:Extern.find Tryz.f139=some Extern.BytealgCount.count:=by kernel_rfl
theorem cl93:callable Tryz.prog 93=true:=by kernel_rfl
theorem shIndex {s c:Str} (h1:s.length < 4294967281) (w:World) (hG:Glo.holds w):Calls Tryz.prog 93 #[.string (ba s),.string (ba c)] w fun e w' => e=.returned (.int .i64 (Lib.index s c)) ∧ Below w.heap.size w w':=by
 obtain⟨m,hm⟩:=hG.1 0 (by simp)
 refine (Tryz.strings_Index (ba s) (ba c) m w (by rw [ba_size]; exact h1) hm).mono ?_
 rintro e w' ⟨rfl,rfl⟩
 exact⟨rfl,Below.refl _ _⟩
theorem cl132:callable Tryz.prog 132=true:=by kernel_rfl
theorem cl119:callable Tryz.prog 119=true:=by kernel_rfl
theorem cl102:callable Tryz.prog 102=true:=by kernel_rfl
theorem cl87:callable Tryz.prog 87=true:=by kernel_rfl
theorem cl105:callable Tryz.prog 105=true:=by kernel_rfl
theorem cl104:callable Tryz.prog 104=true:=by kernel_rfl
theorem cl121:callable Tryz.prog 121=true:=by kernel_rfl
theorem sz121:szOf Tryz.prog 121=some 1:=by kernel_rfl
theorem sz5:szOf Tryz.prog 5=some 1:=by kernel_rfl
theorem zs5:(zeroOf Tryz.prog 5).map (fun z => z.cells.size)=some 1:=by kernel_rfl
theorem by5:bytesOf Tryz.prog 5=some 1:=by kernel_rfl
theorem elt5:Elt Tryz.prog 5 1 1:=.mk' sz5 by5 zs5 rfl
theorem zo5:zeroOf Tryz.prog 5=some (.int .u8 0):=by kernel_rfl
theorem cl107:callable Tryz.prog 107=true:=by kernel_rfl
theorem cl92:callable Tryz.prog 92=true:=by kernel_rfl
theorem sz132:szOf Tryz.prog 132=some 2:=by kernel_rfl
theorem zs132:(zeroOf Tryz.prog 132).map (fun z => z.cells.size)=some 2:=by kernel_rfl
theorem by132:bytesOf Tryz.prog 132=some 32:=by kernel_rfl
theorem elt132:Elt Tryz.prog 132 2 32:=.mk' sz132 by132 zs132 rfl
theorem cl70:callable Tryz.prog 70=true:=by kernel_rfl
theorem sz32:szOf Tryz.prog 32=some 1:=by kernel_rfl
theorem cl47:callable Tryz.prog 47=true:=by kernel_rfl
set_option maxRecDepth 100000 in
theorem df47 (caps:Array Value) (w:World) (h:caps.size=3):CallsD Tryz.prog 47 caps .returning w fun e u' w' => e=.returned (.tuple #[]) ∧ u'=.returning ∧ Ext w w':=by
 obtain⟨p1,p2,p3,rfl⟩:∃ p1 p2 p3,caps=#[p1,p2,p3]:=⟨caps[0],caps[1],caps[2],by apply Array.ext <;> simp [h]; intro i h1 h2; match i,h2 with | 0,_ => rfl | 1,_ => rfl | 2,_ => rfl⟩
 have hta:=fun w => ta_nil (P:=Tryz.prog) (s:=20) (t:=90) (z:=.agg #[.int .i64 0,.int .i64 0]) Tryz.underlying90 (by kernel_rfl) w
 refine callsD_of_wpS Tryz.func47 rfl fun c₀ cs hu => ?_
 have hn:Tryz.f47.ntmps=15:=rfl
 apply wpS_seq
 apply wpS_region
 rw [hn]
 simp [wpOpsS,go_sem,recoverD,hu,Exit.thenS,hta]
 apply wpS_seq
 apply wpS_region
 simp [wpOpsS,go_sem,Exit.thenS]
 refine wpS_cond (t:=false) (by simp [Act.eval]) ?_
 simp only [Bool.false_eq_true,if_false]
 refine wpS_of_wp (wp_skip ?_)
 cases c₀
 simp_all [bodyPostS,results]
 exact Ext.alloc _ _
theorem cl37:callable Tryz.prog 37=true:=by kernel_rfl
theorem sz24:szOf Tryz.prog 24=some 2:=by kernel_rfl
theorem sz25:szOf Tryz.prog 25=some 1:=by kernel_rfl
theorem sz26:szOf Tryz.prog 26=some 1:=by kernel_rfl
theorem fa28 {fs:Array Field} (h:Tryz.prog.underlying 28=some (.struct fs)):fieldsAt Tryz.prog fs [(0,1),(1,2),(3,1),(4,1),(5,1)]:=by rw [Tryz.underlying28] at h; cases h; unfold fieldsAt; kernel_rfl
theorem sz28:szOf Tryz.prog 28=some 6:=by kernel_rfl
theorem sz73:szOf Tryz.prog 73=some 1:=by kernel_rfl
theorem sz4:szOf Tryz.prog 4=some 1:=by kernel_rfl
theorem fa75 {fs:Array Field} (h:Tryz.prog.underlying 75=some (.struct fs)):fieldsAt Tryz.prog fs [(0,1),(1,6),(7,1),(8,1)]:=by rw [Tryz.underlying75] at h; cases h; unfold fieldsAt; kernel_rfl
theorem zo75:zeroOf Tryz.prog 75=some (.agg #[(.slice none 0 0),(.int .i64 0),(.string (ba [])),(.string (ba [])),(.slice none 0 0),(.slice none 0 0),(.string (ba [])),(.bool false),(.int .i64 0)]):=by kernel_rfl
theorem cl38:callable Tryz.prog 38=true:=by kernel_rfl
theorem cl52:callable Tryz.prog 52=true:=by kernel_rfl
theorem cl71:callable Tryz.prog 71=true:=by kernel_rfl
theorem cl73:callable Tryz.prog 73=true:=by kernel_rfl
theorem pl139 (x:T_api_Bind):∀ d ∈ e_api_Bind x,d.plainB=true:=by
 intro d hd
 have hd:d ∈ [(S x.Prefix),(S x.Space)]:=hd
 simp only [List.mem_cons,List.not_mem_nil,or_false] at hd
 rcases hd with rfl | rfl <;> rfl
theorem sz117:szOf Tryz.prog 117=some 8:=by kernel_rfl
theorem sz139:szOf Tryz.prog 139=some 2:=by kernel_rfl
theorem zs139:(zeroOf Tryz.prog 139).map (fun z => z.cells.size)=some 2:=by kernel_rfl
theorem by139:bytesOf Tryz.prog 139=some 32:=by kernel_rfl
theorem elt139:Elt Tryz.prog 139 2 32:=.mk' sz139 by139 zs139 rfl
theorem cl94:callable Tryz.prog 94=true:=by kernel_rfl
theorem eqt9 (d:Nat):EqT Tryz.prog (d + 1) 9 [1]:=.str d 9 Tryz.underlying9
theorem ag9:(Tryz.prog.underlying 9).map aggB=some false:=by rw [Tryz.underlying9]; rfl
theorem eg9:Tryz.prog.eqGuardType Tryz.prog.depth 9=false:=by kernel_rfl
def keq9 (a b:Str):Bool:=a == b
theorem kt9:KeyT Tryz.prog 9 S (fun a => [.string (ba a)]) keq9 [1]:=KeyT.leaf (eqt9 9999) ag9 (fun _ => rfl) (fun _ _ => rfl)
theorem cl127:callable Tryz.prog 127=true:=by kernel_rfl
theorem cl109:callable Tryz.prog 109=true:=by kernel_rfl
theorem cl95:callable Tryz.prog 95=true:=by kernel_rfl
theorem cl101:callable Tryz.prog 101=true:=by kernel_rfl
theorem cl84:callable Tryz.prog 84=true:=by kernel_rfl
theorem cl85:callable Tryz.prog 85=true:=by kernel_rfl
theorem cl110:callable Tryz.prog 110=true:=by kernel_rfl
theorem cl111:callable Tryz.prog 111=true:=by kernel_rfl
theorem fa139 {fs:Array Field} (h:Tryz.prog.underlying 139=some (.struct fs)):fieldsAt Tryz.prog fs [(0,1),(1,1)]:=by rw [Tryz.underlying139] at h; cases h; unfold fieldsAt; kernel_rfl
theorem zo139:zeroOf Tryz.prog 139=some (.agg #[(.string (ba [])),(.string (ba []))]):=by kernel_rfl
theorem cl96:callable Tryz.prog 96=true:=by kernel_rfl
theorem cl72:callable Tryz.prog 72=true:=by kernel_rfl
theorem zo24:zeroOf Tryz.prog 24=some (.agg #[(.string (ba [])),(.string (ba []))]):=by kernel_rfl
theorem cl112:callable Tryz.prog 112=true:=by kernel_rfl
theorem shCut {s c:Str} (h1:s.length < 4294967281) (w:World) (hG:Glo.holds w):Calls Tryz.prog 112 #[.string (ba s),.string (ba c)] w fun e w' => e=.returned (.tuple #[.string (ba (Lib.cut s c).1),.string (ba (Lib.cut s c).2.1),.bool (Lib.cut s c).2.2]) ∧ Below w.heap.size w w':=by
 obtain⟨m,hm⟩:=hG.1 0 (by simp)
 refine (Tryz.strings_Cut (ba s) (ba c) m w (by rw [ba_size]; exact h1) hm).mono ?_
 rintro e w' ⟨rfl,n,rfl⟩
 exact⟨rfl,below_drewN _ _⟩
theorem cl97:callable Tryz.prog 97=true:=by kernel_rfl
theorem fa24 {fs:Array Field} (h:Tryz.prog.underlying 24=some (.struct fs)):fieldsAt Tryz.prog fs [(0,1),(1,1)]:=by rw [Tryz.underlying24] at h; cases h; unfold fieldsAt; kernel_rfl
theorem cl98:callable Tryz.prog 98=true:=by kernel_rfl
theorem cl74:callable Tryz.prog 74=true:=by kernel_rfl
theorem eqt24 (d:Nat):EqT Tryz.prog (d + 2) 24 [1,1]:=by
 refine EqT.struct (d + 1) 24 _ [[1],[1]] Tryz.underlying24 (by kernel_rfl) rfl ?_ ?_
 ·intro i f ks hf hk
  match i,hf,hk with
  | 0,hf,hk => cases hf; cases hk; exact⟨by decide,rfl,sz9⟩
  | 1,hf,hk => cases hf; cases hk; exact⟨by decide,rfl,sz9⟩
  | i + 2,hf,hk => simp at hk
 ·intro i f ks hf hk
  match i,hf,hk with
  | 0,hf,hk => cases hf; cases hk; exact eqt9 (d + 0)
  | 1,hf,hk => cases hf; cases hk; exact eqt9 (d + 0)
  | i + 2,hf,hk => simp at hk
theorem ag24:(Tryz.prog.underlying 24).map aggB=some true:=by rw [Tryz.underlying24]; rfl
theorem eg24:Tryz.prog.eqGuardType Tryz.prog.depth 24=false:=by kernel_rfl
def keq24 (a b:T_api_Name):Bool:=(a.Space == b.Space && (a.Local == b.Local && true))
theorem kt24:KeyT Tryz.prog 24 (fun a => D.agg (e_api_Name a)) (fun a => [.string (ba a.Space),.string (ba a.Local)]) keq24 [1,1]:=KeyT.agg (eqt24 9998) ag24 (fun _ => rfl) (fun _ _ => rfl) (fun a x h => by simp at h; rcases h with rfl | rfl <;> rfl)
theorem fa41 {fs:Array Field} (h:Tryz.prog.underlying 41=some (.struct fs)):fieldsAt Tryz.prog fs [(0,2),(2,1)]:=by rw [Tryz.underlying41] at h; cases h; unfold fieldsAt; kernel_rfl
theorem zo41:zeroOf Tryz.prog 41=some (.agg #[(.string (ba [])),(.string (ba [])),(.string (ba []))]):=by kernel_rfl
theorem sz41:szOf Tryz.prog 41=some 3:=by kernel_rfl
theorem zs41:(zeroOf Tryz.prog 41).map (fun z => z.cells.size)=some 3:=by kernel_rfl
theorem by41:bytesOf Tryz.prog 41=some 48:=by kernel_rfl
theorem elt41:Elt Tryz.prog 41 3 48:=.mk' sz41 by41 zs41 rfl
theorem cl75:callable Tryz.prog 75=true:=by kernel_rfl
theorem fa117 {fs:Array Field} (h:Tryz.prog.underlying 117=some (.struct fs)):fieldsAt Tryz.prog fs [(0,1),(1,1),(2,6)]:=by rw [Tryz.underlying117] at h; cases h; unfold fieldsAt; kernel_rfl
theorem zo117:zeroOf Tryz.prog 117=some (.agg #[(.string (ba [])),(.slice none 0 0),(.int .i64 0),(.string (ba [])),(.string (ba [])),(.slice none 0 0),(.slice none 0 0),(.string (ba []))]):=by kernel_rfl
theorem zs117:(zeroOf Tryz.prog 117).map (fun z => z.cells.size)=some 8:=by kernel_rfl
theorem by117:bytesOf Tryz.prog 117=some 144:=by kernel_rfl
theorem elt117:Elt Tryz.prog 117 8 144:=.mk' sz117 by117 zs117 rfl
theorem cl53:callable Tryz.prog 53=true:=by kernel_rfl
theorem cl54:callable Tryz.prog 54=true:=by kernel_rfl
theorem cl39:callable Tryz.prog 39=true:=by kernel_rfl
theorem cl20:callable Tryz.prog 20=true:=by kernel_rfl
theorem zo45:zeroOf Tryz.prog 45=some (.agg #[(.int .i64 0),(.string (ba [])),(.string (ba [])),(.slice none 0 0)]):=by kernel_rfl
theorem cl55:callable Tryz.prog 55=true:=by kernel_rfl
theorem cl40:callable Tryz.prog 40=true:=by kernel_rfl
theorem zs28:(zeroOf Tryz.prog 28).map (fun z => z.cells.size)=some 6:=by kernel_rfl
theorem by28:bytesOf Tryz.prog 28=some 104:=by kernel_rfl
theorem elt28:Elt Tryz.prog 28 6 104:=.mk' sz28 by28 zs28 rfl
theorem cl24:callable Tryz.prog 24=true:=by kernel_rfl
theorem cl25:callable Tryz.prog 25=true:=by kernel_rfl
theorem sz22:szOf Tryz.prog 22=some 1:=by kernel_rfl
theorem fa45 {fs:Array Field} (h:Tryz.prog.underlying 45=some (.struct fs)):fieldsAt Tryz.prog fs [(0,1),(1,1),(2,1),(3,1)]:=by rw [Tryz.underlying45] at h; cases h; unfold fieldsAt; kernel_rfl
theorem sz45:szOf Tryz.prog 45=some 4:=by kernel_rfl
theorem cl41:callable Tryz.prog 41=true:=by kernel_rfl
theorem cl56:callable Tryz.prog 56=true:=by kernel_rfl
theorem cl42:callable Tryz.prog 42=true:=by kernel_rfl
theorem cl57:callable Tryz.prog 57=true:=by kernel_rfl
theorem cl43:callable Tryz.prog 43=true:=by kernel_rfl
theorem cl26:callable Tryz.prog 26=true:=by kernel_rfl
theorem zs45:(zeroOf Tryz.prog 45).map (fun z => z.cells.size)=some 4:=by kernel_rfl
theorem by45:bytesOf Tryz.prog 45=some 64:=by kernel_rfl
theorem elt45:Elt Tryz.prog 45 4 64:=.mk' sz45 by45 zs45 rfl
theorem eqt3 (d:Nat):EqT Tryz.prog (d + 1) 3 [0]:=.int d 3 _ Tryz.underlying3
theorem ag3:(Tryz.prog.underlying 3).map aggB=some false:=by rw [Tryz.underlying3]; rfl
theorem eg3:Tryz.prog.eqGuardType Tryz.prog.depth 3=false:=by kernel_rfl
theorem eqt87 (d:Nat):EqT Tryz.prog (d + 2) 87 [0,1]:=by
 refine EqT.struct (d + 1) 87 _ [[0],[1]] Tryz.underlying87 (by kernel_rfl) rfl ?_ ?_
 ·intro i f ks hf hk
  match i,hf,hk with
  | 0,hf,hk => cases hf; cases hk; exact⟨by decide,rfl,sz3⟩
  | 1,hf,hk => cases hf; cases hk; exact⟨by decide,rfl,sz9⟩
  | i + 2,hf,hk => simp at hk
 ·intro i f ks hf hk
  match i,hf,hk with
  | 0,hf,hk => cases hf; cases hk; exact eqt3 (d + 0)
  | 1,hf,hk => cases hf; cases hk; exact eqt9 (d + 0)
  | i + 2,hf,hk => simp at hk
theorem ag87:(Tryz.prog.underlying 87).map aggB=some true:=by rw [Tryz.underlying87]; rfl
theorem eg87:Tryz.prog.eqGuardType Tryz.prog.depth 87=false:=by kernel_rfl
def keq87 (a b:T_lists_key):Bool:=(a.Kind_ == b.Kind_ && (a.Text_ == b.Text_ && true))
theorem kt87:KeyT Tryz.prog 87 (fun a => D.agg (e_lists_key a)) (fun a => [.int .i64 a.Kind_,.string (ba a.Text_)]) keq87 [0,1]:=KeyT.agg (eqt87 9998) ag87 (fun _ => rfl) (fun _ _ => rfl) (fun a x h => by simp at h; rcases h with rfl | rfl <;> rfl)
theorem fa87 {fs:Array Field} (h:Tryz.prog.underlying 87=some (.struct fs)):fieldsAt Tryz.prog fs [(0,1),(1,1)]:=by rw [Tryz.underlying87] at h; cases h; unfold fieldsAt; kernel_rfl
theorem zo87:zeroOf Tryz.prog 87=some (.agg #[(.int .i64 0),(.string (ba []))]):=by kernel_rfl
theorem sz87:szOf Tryz.prog 87=some 2:=by kernel_rfl
theorem zo4:zeroOf Tryz.prog 4=some (.bool false):=by kernel_rfl
theorem cl27:callable Tryz.prog 27=true:=by kernel_rfl
theorem cl21:callable Tryz.prog 21=true:=by kernel_rfl
theorem cl10:callable Tryz.prog 10=true:=by kernel_rfl
theorem cl28:callable Tryz.prog 28=true:=by kernel_rfl
theorem cl29:callable Tryz.prog 29=true:=by kernel_rfl
theorem cl30:callable Tryz.prog 30=true:=by kernel_rfl
theorem cl11:callable Tryz.prog 11=true:=by kernel_rfl
theorem cl13:callable Tryz.prog 13=true:=by kernel_rfl
theorem cl7:callable Tryz.prog 7=true:=by kernel_rfl
theorem cl22:callable Tryz.prog 22=true:=by kernel_rfl
theorem cl8:callable Tryz.prog 8=true:=by kernel_rfl
theorem cl23:callable Tryz.prog 23=true:=by kernel_rfl
theorem cl9:callable Tryz.prog 9=true:=by kernel_rfl
theorem cl12:callable Tryz.prog 12=true:=by kernel_rfl
theorem cl15:callable Tryz.prog 15=true:=by kernel_rfl
theorem ccSz:(Tryz.prog.info? 155).map (·.size)=some 2:=by kernel_rfl
theorem ccLies:liesAt Tryz.prog Tryz.prog.depth 155 (2 / Tryz.prog.cellsOf 155) 0 155 1=true:=by kernel_rfl
set_option maxHeartbeats 1000000 in
set_option maxRecDepth 100000 in
theorem ccU (b:Nat) (w:World) (h0:w.cell? ⟨b,0,none⟩=some (.pointer (some ⟨b,0,none⟩))) :
  Calls Tryz.prog 121 #[.pointer (some ⟨b,0,none⟩)] w fun e w' => e=.returned (.tuple #[]) ∧ w'=w:=by
 obtain⟨j,hj,_⟩:=Option.map_eq_some_iff.1 ccSz
 go_enter Tryz.func121,Tryz.ntmps121
 go_wp2
 rw [Lib.run_neq_ptr_same w _ Tryz.underlying153 hj]
 go_wp2
 go_end0
 exact⟨rfl,rfl⟩
set_option maxHeartbeats 1000000 in
set_option maxRecDepth 100000 in
theorem ccF (b:Nat) (w:World) (h0:w.cell? ⟨b,0,none⟩=some (.pointer none)) (hsh:w.shape? b=some (155,2)) (hfz:w.frozen? ⟨b,0,none⟩=false) :
  Calls Tryz.prog 121 #[.pointer (some ⟨b,0,none⟩)] w fun e w' => e=.returned (.tuple #[]) ∧ w'=w.setCell ⟨b,0,none⟩ (.pointer (some ⟨b,0,none⟩)):=by
 obtain⟨j,hj,hjs⟩:=Option.map_eq_some_iff.1 ccSz
 go_enter Tryz.func121,Tryz.ntmps121
 go_wp2
 rw [Lib.run_to_unsafe w ⟨b,0,none⟩ Tryz.underlying153 Tryz.underlying176 hj (by rw [hjs]; decide) hsh (Nat.zero_lt_succ 1)]
 simp only [Result.andThen]
 rw [Oper.upon_value]
 go_wp2
 rw [run_callFunc_extern Tryz.func133 (by kernel_rfl) (by kernel_rfl) (by kernel_rfl) (e:=Extern.AbiNoEscape.same) (by kernel_rfl)]
 rw [Lib.run_noEscape]
 simp only [Result.andThen]
 rw [Oper.upon_value]
 go_wp2
 rw [Lib.run_from_unsafe w ⟨b,0,none⟩ Tryz.underlying176 Tryz.underlying153 hj hsh ccLies]
 simp only [Result.andThen]
 rw [Oper.upon_value]
 go_wp2
 go_end0
 exact⟨rfl,rfl⟩
theorem bdS:∀ (b:Nat) (l:List UInt8) (p v:Value) (w:World),w.heap[b]? =some (.cells #[p,v] 155 (0,0))→w.ownsRow 0 5 1 v l.length (Lib.byteCells l)→Calls Tryz.prog 107 #[.pointer (some ⟨b,0,none⟩)] w fun e w' => e=.returned (.string ⟨l.toArray⟩) ∧ Still w w' (blockOf v):=bdStr Tryz.lays169 Tryz.Builder_Extra_169
def utf_shape (a0:Int):Option (Int × Int):=(if (decide (a0 < 128))=true then some (1,(IntKind.i32.wrap a0)) else none)
theorem utf_shape.ok {a0:Int} {r:Int × Int} (H:utf_shape a0=some r):Vx.Fn Tryz.prog 77 [(.v (.int .u8 a0))] [] (.tup [(.v (.int .i64 r.1)),(.v (.int .i32 r.2))]) []:=by
 unfold utf_shape at H
 refine Vx.Fn.of_okR Tryz.func77 rfl (Nat.le_of_ble_eq_true rfl) ?_
 refine Ok.seq ?_
 refine .rg [(0,(.v (.int .u8 a0)))] [] ?_
 refine Ok.seq ?_
 refine Ok.block ?_
 refine Ok.seq ?_
 refine .rg [(0,(.v (.int .u8 a0))),(4,(.v (.bool (decide (a0 < 128)))))] [] ?_
 refine Ok.test (b:=(decide (a0 < 128))) rfl (fun hb1 => ?_) (fun hb1 => ?_)
 ·replace H:=ifT H hb1
  refine Ok.seq ?_
  refine .rg [(2,(.v (.int .i64 1))),(3,(.v (.int .i32 (IntKind.i32.wrap a0))))] [] ?_
  refine Ok.ret ?_
  obtain rfl:=Option.some.inj H
  exact⟨.inl rfl,⟨_,(.cons (.tmp rfl) (.cons (.tmp rfl) .nil)),rfl⟩,trivial⟩
 ·replace H:=ifF H hb1
  cases H
def utf_least (a0:Int):Option Int:=(if (a0 == 2)=true then none else (if (a0 == 3)=true then none else (if (a0 == 4)=true then none else some 0)))
theorem utf_least.ok {a0:Int} {r:Int} (H:utf_least a0=some r):Vx.Fn Tryz.prog 78 [(.v (.int .i64 a0))] [] (.v (.int .i32 r)) []:=by
 unfold utf_least at H
 refine Vx.Fn.of_okR Tryz.func78 rfl (Nat.le_of_ble_eq_true rfl) ?_
 refine Ok.seq ?_
 refine .rg [(0,(.v (.int .i64 a0)))] [] ?_
 refine Ok.seq ?_
 refine Ok.seq ?_
 refine .rg [(3,(.v (.int .i64 a0)))] [] ?_
 refine Ok.block ?_
 refine Ok.seq ?_
 refine .rg [(3,(.v (.int .i64 a0))),(4,(.v (.bool (a0 == 2))))] [] ?_
 refine Ok.test (b:=(a0 == 2)) rfl (fun hb3 => ?_) (fun hb3 => ?_)
 ·replace H:=ifT H hb3
  cases H
 ·replace H:=ifF H hb3
  refine Ok.seq ?_
  refine .rg [(3,(.v (.int .i64 a0))),(6,(.v (.bool (a0 == 3))))] [] ?_
  refine Ok.test (b:=(a0 == 3)) rfl (fun hb2 => ?_) (fun hb2 => ?_)
  ·replace H:=ifT H hb2
   cases H
  ·replace H:=ifF H hb2
   refine Ok.seq ?_
   refine .rg [(8,(.v (.bool (a0 == 4))))] [] ?_
   refine Ok.test (b:=(a0 == 4)) rfl (fun hb1 => ?_) (fun hb1 => ?_)
   ·replace H:=ifT H hb1
    cases H
   ·replace H:=ifF H hb1
    refine Ok.skip ?_
    refine Ok.seq ?_
    refine .rg [(2,(.v (.int .i32 0)))] [] ?_
    refine Ok.ret ?_
    obtain rfl:=Option.some.inj H
    exact⟨.inl rfl,⟨_,(.cons (.tmp rfl) .nil),rfl⟩,trivial⟩
def utf_scalar (a0:Int):Option Bool:=some (((decide (a0 ≥ 0)) && (decide (a0 < 55296))) || ((decide (a0 ≥ 57344)) && (decide (a0 ≤ 1114111))))
theorem utf_scalar.ok {a0:Int} {r:Bool} (H:utf_scalar a0=some r):Vx.Fn Tryz.prog 79 [(.v (.int .i32 a0))] [] (.v (.bool r)) []:=by
 unfold utf_scalar at H
 refine Vx.Fn.of_okR Tryz.func79 rfl (Nat.le_of_ble_eq_true rfl) ?_
 refine Ok.seq ?_
 refine .rg [(0,(.v (.int .i32 a0)))] [] ?_
 refine Ok.seq ?_
 refine Ok.region (σ':=⟨[(2,(.v (.bool (((decide (a0 ≥ 0)) && (decide (a0 < 55296))) || ((decide (a0 ≥ 57344)) && (decide (a0 ≤ 1114111)))))))],[]⟩) ?_ ?_
 ·refine .rn 3 ?_
  refine OpsOk.consI rfl rfl rfl (.one rfl) rfl (fun hw1 => (VOk.g (VOk.mv (d:=(.v (.int .i32 a0))) rfl rfl))) ?_
  refine OpsOk.consI rfl rfl rfl (.one rfl) rfl (fun hw1 => (GOk.fr (fr':=[(6,(.v (.int .i32 a0)))]) ⟨DLe.of_eq (cT hw1).symm,trivial⟩ (VOk.g (VOk.arith (op:=.lss) (k:=.i32) (a:=a0) (b:=55296) rfl rfl rfl rfl)))) ?_
  refine .cv (VOk.to (VOk.pickI (b:=(decide (a0 ≥ 0))) (p:=(decide (a0 < 55296))) (q:=false) rfl rfl (fun hp2 => (cT (t_beq hp2))) (fun hp2 => rfl)) (pickAnd (decide (a0 ≥ 0)) (decide (a0 < 55296)))) rfl rfl ?_
  refine .rn 1 ?_
  refine OpsOk.consI rfl rfl rfl (.one rfl) rfl (fun hw3 => (VOk.g (VOk.mv (d:=(.v (.int .i32 a0))) rfl rfl))) ?_
  refine OpsOk.consI rfl rfl rfl (.one rfl) rfl (fun hw3 => (GOk.fr (fr':=[(10,(.v (.int .i32 a0)))]) ⟨DLe.of_eq (cT hw3).symm,trivial⟩ (VOk.g (VOk.arith (op:=.geq) (k:=.i32) (a:=a0) (b:=57344) rfl rfl rfl rfl)))) ?_
  refine OpsOk.consI rfl rfl rfl (.one rfl) rfl (fun hw3 => (GOk.fr (fr':=[(11,(.v (.bool (decide (a0 ≥ 57344)))))]) ⟨DLe.of_eq (cT hw3).symm,trivial⟩ (VOk.g (VOk.mv (d:=(.v (.bool (decide (a0 ≥ 57344))))) rfl rfl)))) ?_
  refine OpsOk.consI rfl rfl rfl (.two rfl) rfl (fun hw4 => (VOk.g (VOk.mv (d:=(.v (.int .i32 a0))) rfl rfl))) ?_
  refine OpsOk.consI rfl rfl rfl (.two rfl) rfl (fun hw4 => (GOk.fr (fr':=[(13,(.v (.int .i32 a0)))]) ⟨DLe.of_eq (cT hw4).symm,trivial⟩ (VOk.g (VOk.arith (op:=.leq) (k:=.i32) (a:=a0) (b:=1114111) rfl rfl rfl rfl)))) ?_
  refine OpsOk.consI rfl rfl rfl (.one rfl) rfl (fun hw3 => (VOk.g (VOk.to (VOk.pickI (b:=(decide (a0 ≥ 57344))) (p:=(decide (a0 ≤ 1114111))) (q:=false) rfl (cT hw3) (fun hp5 => (cT (and_i hw3 (t_beq hp5)))) (fun hp5 => rfl)) (pickAnd (decide (a0 ≥ 57344)) (decide (a0 ≤ 1114111)))))) ?_
  refine .cv (VOk.to (VOk.pickI (b:=((decide (a0 ≥ 0)) && (decide (a0 < 55296)))) (p:=true) (q:=((decide (a0 ≥ 57344)) && (decide (a0 ≤ 1114111)))) rfl rfl (fun hp6 => rfl) (fun hp6 => (cT (f_beq hp6)))) (pickOr ((decide (a0 ≥ 0)) && (decide (a0 < 55296))) ((decide (a0 ≥ 57344)) && (decide (a0 ≤ 1114111))))) rfl rfl ?_
  refine .rn 1 ?_
  exact .dn
 refine Ok.ret ?_
 obtain rfl:=Option.some.inj H
 exact⟨.inl rfl,⟨_,(.cons (.tmp rfl) .nil),rfl⟩,trivial⟩
def utf_Rune.l0 (k:Nat) (a0:Str) (a1:Int) (t4:Int × Int):Nat→Int→Int→Option (Int × Int)
 | 0,_,_ => none
 | m13 + 1,x4_9,x42_10 => (if (decide (x42_10 < ((bytesOfStr (sl a0 (IntKind.i64.wrap (a1 + 1)) (IntKind.i64.wrap (a1 + t4.1)))).length:Int)))=true then none else ((utf_least t4.1).bind fun (t14:Int) => (((if ((decide (x4_9 < t14)) == false)=true then utf_scalar x4_9 else some default)).bind fun (t17:Bool) => (if ((decide (x4_9 < t14)) || (!t17))=true then none else some (x4_9,t4.1)))))
def utf_Rune (k:Nat) (a0:Str) (a1:Int):Option (Int × Int):=(if ((decide (a1 < 0)) || (decide (a1 ≥ (a0.length:Int))))=true then none else (if (0:Int) ≤ a1 ∧ a1 < (a0.length:Int) then ((utf_shape (bt a0 a1)).bind fun (t4:Int × Int) => (if ((t4.1 == 0) || (decide (t4.1 > (IntKind.i64.wrap ((a0.length:Int) - a1)))))=true then none else (if (0:Int) ≤ (IntKind.i64.wrap (a1 + 1)) ∧ (IntKind.i64.wrap (a1 + 1)) ≤ (IntKind.i64.wrap (a1 + t4.1)) ∧ (IntKind.i64.wrap (a1 + t4.1)) ≤ (a0.length:Int) then utf_Rune.l0 k a0 a1 t4 k t4.2 0 else none))) else none))
theorem utf_Rune.ok {k:Nat} {a0:Str} {a1:Int} {r:Int × Int} (H:utf_Rune k a0 a1=some r):Vx.Fn Tryz.prog 59 [(S a0),(.v (.int .i64 a1))] [] (.tup [(.v (.int .i32 r.1)),(.v (.int .i64 r.2))]) []:=by
 unfold utf_Rune at H
 refine Vx.Fn.of_okR Tryz.func59 rfl (Nat.le_of_ble_eq_true rfl) ?_
 refine Ok.seq ?_
 refine .rg [(0,(S a0)),(1,(.v (.int .i64 a1)))] [] ?_
 refine Ok.seq ?_
 refine Ok.seq ?_
 refine Ok.region (σ':=⟨[(0,(S a0)),(1,(.v (.int .i64 a1))),(15,(.v (.bool ((decide (a1 < 0)) || (decide (a1 ≥ (a0.length:Int)))))))],[]⟩) ?_ ?_
 ·refine .rn 3 ?_
  refine OpsOk.consI rfl rfl rfl (.one rfl) rfl (fun hw1 => (VOk.g (VOk.mv (d:=(.v (.int .i64 a1))) rfl rfl))) ?_
  refine OpsOk.consI rfl rfl rfl (.one rfl) rfl (fun hw1 => (VOk.g (VOk.mv (d:=(S a0)) rfl rfl))) ?_
  refine OpsOk.consI rfl rfl rfl (.one rfl) rfl (fun hw1 => (GOk.fr (fr':=[(12,(S a0))]) ⟨DLe.of_eq (cT hw1).symm,trivial⟩ (VOk.g (VOk.lenStr (s:=a0) rfl Tryz.underlying9 rfl)))) ?_
  refine OpsOk.consI rfl rfl rfl (.one rfl) rfl (fun hw1 => (GOk.fr (fr':=[(11,(.v (.int .i64 a1))),(13,(.v (.int .i64 (a0.length:Int))))]) ⟨DLe.of_eq (cT hw1).symm,DLe.of_eq (cT hw1).symm,trivial⟩ (VOk.g (VOk.arith (op:=.geq) (k:=.i64) (a:=a1) (b:=(a0.length:Int)) rfl rfl rfl rfl)))) ?_
  refine .cv (VOk.to (VOk.pickI (b:=(decide (a1 < 0))) (p:=true) (q:=(decide (a1 ≥ (a0.length:Int)))) rfl rfl (fun hp2 => rfl) (fun hp2 => (cT (f_beq hp2)))) (pickOr (decide (a1 < 0)) (decide (a1 ≥ (a0.length:Int))))) rfl rfl ?_
  exact .dn
 refine Ok.test (b:=((decide (a1 < 0)) || (decide (a1 ≥ (a0.length:Int))))) rfl (fun hb23 => ?_) (fun hb23 => ?_)
 ·replace H:=ifT H hb23
  cases H
 ·replace H:=ifF H hb23
  refine Ok.skip ?_
  refine Ok.seq ?_
  obtain⟨c3,H⟩:=assertE H
  obtain⟨t4,h5,H⟩:=bindE H
  refine Ok.region (σ':=⟨[(0,(S a0)),(1,(.v (.int .i64 a1))),(4,(.v (.int .i32 t4.2))),(5,(.v (.int .i64 t4.1)))],[]⟩) ?_ ?_
  ·refine .rn 2 ?_
   refine .cv (VOk.indexStr (s:=a0) (i:=a1) rfl Tryz.underlying9 rfl rfl c3) rfl rfl ?_
   refine .cg (GOk.call rfl rfl cl77 rfl (utf_shape.ok h5) rfl) rfl rfl ?_
   refine .rn 5 ?_
   exact .dn
  refine Ok.seq ?_
  refine Ok.seq ?_
  refine Ok.region (σ':=⟨[(0,(S a0)),(1,(.v (.int .i64 a1))),(4,(.v (.int .i32 t4.2))),(5,(.v (.int .i64 t4.1))),(32,(.v (.bool ((t4.1 == 0) || (decide (t4.1 > (IntKind.i64.wrap ((a0.length:Int) - a1))))))))],[]⟩) ?_ ?_
  ·refine .rn 3 ?_
   refine OpsOk.consI rfl rfl rfl (.one rfl) rfl (fun hw6 => (VOk.g (VOk.mv (d:=(.v (.int .i64 t4.1))) rfl rfl))) ?_
   refine OpsOk.consI rfl rfl rfl (.one rfl) rfl (fun hw6 => (VOk.g (VOk.mv (d:=(S a0)) rfl rfl))) ?_
   refine OpsOk.consI rfl rfl rfl (.one rfl) rfl (fun hw6 => (GOk.fr (fr':=[(27,(S a0))]) ⟨DLe.of_eq (cT hw6).symm,trivial⟩ (VOk.g (VOk.lenStr (s:=a0) rfl Tryz.underlying9 rfl)))) ?_
   refine OpsOk.consI rfl rfl rfl (.one rfl) rfl (fun hw6 => (VOk.g (VOk.mv (d:=(.v (.int .i64 a1))) rfl rfl))) ?_
   refine OpsOk.consI rfl rfl rfl (.one rfl) rfl (fun hw6 => (GOk.fr (fr':=[(28,(.v (.int .i64 (a0.length:Int)))),(29,(.v (.int .i64 a1)))]) ⟨DLe.of_eq (cT hw6).symm,DLe.of_eq (cT hw6).symm,trivial⟩ (VOk.g (VOk.arith (op:=.sub) (k:=.i64) (a:=(a0.length:Int)) (b:=a1) rfl rfl rfl rfl)))) ?_
   refine OpsOk.consI rfl rfl rfl (.one rfl) rfl (fun hw6 => (GOk.fr (fr':=[(26,(.v (.int .i64 t4.1))),(30,(.v (.int .i64 (IntKind.i64.wrap ((a0.length:Int) - a1)))))]) ⟨DLe.of_eq (cT hw6).symm,DLe.of_eq (cT hw6).symm,trivial⟩ (VOk.g (VOk.arith (op:=.gtr) (k:=.i64) (a:=t4.1) (b:=(IntKind.i64.wrap ((a0.length:Int) - a1))) rfl rfl rfl rfl)))) ?_
   refine .cv (VOk.to (VOk.pickI (b:=(t4.1 == 0)) (p:=true) (q:=(decide (t4.1 > (IntKind.i64.wrap ((a0.length:Int) - a1))))) rfl rfl (fun hp7 => rfl) (fun hp7 => (cT (f_beq hp7)))) (pickOr (t4.1 == 0) (decide (t4.1 > (IntKind.i64.wrap ((a0.length:Int) - a1)))))) rfl rfl ?_
   exact .dn
  refine Ok.test (b:=((t4.1 == 0) || (decide (t4.1 > (IntKind.i64.wrap ((a0.length:Int) - a1)))))) rfl (fun hb22 => ?_) (fun hb22 => ?_)
  ·replace H:=ifT H hb22
   cases H
  ·replace H:=ifF H hb22
   refine Ok.skip ?_
   refine Ok.seq ?_
   refine Ok.seq ?_
   obtain⟨c8,H⟩:=assertE H
   refine Ok.region (σ':=⟨[(4,(.v (.int .i32 t4.2))),(5,(.v (.int .i64 t4.1))),(41,(.v (.int .i64 ((bytesOfStr (sl a0 (IntKind.i64.wrap (a1 + 1)) (IntKind.i64.wrap (a1 + t4.1)))).length:Int)))),(42,(.v (.int .i64 0)))],[]⟩) ?_ ?_
   ·refine .rn 6 ?_
    refine .cv (VOk.sliceStr (s:=a0) (l:=(IntKind.i64.wrap (a1 + 1))) (h:=(IntKind.i64.wrap (a1 + t4.1))) rfl Tryz.underlying9 rfl rfl rfl c8) rfl rfl ?_
    refine .cg (GOk.strBytes (s:=(sl a0 (IntKind.i64.wrap (a1 + 1)) (IntKind.i64.wrap (a1 + t4.1)))) rfl Tryz.underlying9 Tryz.underlying121 Tryz.underlying5 rfl) rfl rfl ?_
    refine .cv (VOk.lenL (e:=(eI .u8)) (xs:=(bytesOfStr (sl a0 (IntKind.i64.wrap (a1 + 1)) (IntKind.i64.wrap (a1 + t4.1))))) rfl Tryz.underlying121 rfl) rfl rfl ?_
    refine .rn 1 ?_
    exact .dn
   refine Ok.block ?_
   refine Ok.loop (fun m13 σ => ∃ (x4_9:Int) (x42_10:Int),σ=⟨[(4,(.v (.int .i32 x4_9))),(5,(.v (.int .i64 t4.1))),(41,(.v (.int .i64 ((bytesOfStr (sl a0 (IntKind.i64.wrap (a1 + 1)) (IntKind.i64.wrap (a1 + t4.1)))).length:Int)))),(42,(.v (.int .i64 x42_10)))],[]⟩ ∧ utf_Rune.l0 k a0 a1 t4 m13 x4_9 x42_10=some r) k ⟨t4.2,0,rfl,H⟩ ?_
   rintro m13 σ ⟨x4_9,x42_10,rfl,H⟩
   cases m13 with
   | zero => exact absurd H (by simp [utf_Rune.l0])
   | succ m13 =>
    unfold utf_Rune.l0 at H
    refine Ok.seq ?_
    refine .rg [(4,(.v (.int .i32 x4_9))),(5,(.v (.int .i64 t4.1))),(43,(.v (.bool (decide (x42_10 < ((bytesOfStr (sl a0 (IntKind.i64.wrap (a1 + 1)) (IntKind.i64.wrap (a1 + t4.1)))).length:Int))))))] [] ?_
    refine Ok.seq ?_
    refine Ok.test (b:=(decide (x42_10 < ((bytesOfStr (sl a0 (IntKind.i64.wrap (a1 + 1)) (IntKind.i64.wrap (a1 + t4.1)))).length:Int)))) rfl (fun hb21 => ?_) (fun hb21 => ?_)
    ·replace H:=ifT H hb21
     cases H
    ·replace H:=ifF H hb21
     refine Ok.exit ?_
     refine Ok.seq ?_
     refine Ok.seq ?_
     obtain⟨t14,h15,H⟩:=bindE H
     obtain⟨t17,h18,H⟩:=bindE H
     refine Ok.region (σ':=⟨[(4,(.v (.int .i32 x4_9))),(5,(.v (.int .i64 t4.1))),(64,(.v (.bool ((decide (x4_9 < t14)) || (!t17)))))],[]⟩) ?_ ?_
     ·refine .rn 2 ?_
      refine .cg (GOk.call rfl rfl cl78 rfl (utf_least.ok h15) rfl) rfl rfl ?_
      refine .rn 2 ?_
      refine OpsOk.consI rfl rfl rfl (.one rfl) rfl (fun hw16 => (VOk.g (VOk.mv (d:=(.v (.int .i32 x4_9))) rfl rfl))) ?_
      refine OpsOk.consI rfl rfl rfl (.one rfl) rfl (fun hw16 => (GOk.fr (fr':=[(61,(.v (.int .i32 x4_9)))]) ⟨DLe.of_eq (cT hw16).symm,trivial⟩ (GOk.call rfl rfl cl79 rfl (utf_scalar.ok (ifT h18 hw16)) rfl))) ?_
      refine OpsOk.consI rfl rfl rfl (.one rfl) rfl (fun hw16 => (GOk.fr (fr':=[(62,(.v (.bool t17)))]) ⟨DLe.of_eq (cT hw16).symm,trivial⟩ (VOk.g (VOk.not (b:=t17) rfl rfl)))) ?_
      refine .cv (VOk.to (VOk.pickI (b:=(decide (x4_9 < t14))) (p:=true) (q:=(!t17)) rfl rfl (fun hp19 => rfl) (fun hp19 => (cT (f_beq hp19)))) (pickOr (decide (x4_9 < t14)) (!t17))) rfl rfl ?_
      exact .dn
     refine Ok.test (b:=((decide (x4_9 < t14)) || (!t17))) rfl (fun hb20 => ?_) (fun hb20 => ?_)
     ·replace H:=ifT H hb20
      cases H
     ·replace H:=ifF H hb20
      refine Ok.skip ?_
      refine Ok.seq ?_
      refine .rg [(4,(.v (.int .i32 x4_9))),(5,(.v (.int .i64 t4.1)))] [] ?_
      refine Ok.ret ?_
      obtain rfl:=Option.some.inj H
      exact⟨.inl rfl,⟨_,(.cons (.tmp rfl) (.cons (.tmp rfl) .nil)),rfl⟩,trivial⟩
def utf_Check.l0 (k:Nat) (a0:Str):Nat→Int→Option Int
 | 0,_ => none
 | m3 + 1,x3_1 => (if (decide (x3_1 < (a0.length:Int)))=true then ((utf_Rune k a0 x3_1).bind fun (t4:Int × Int) => (if (t4.2 == 0)=true then none else utf_Check.l0 k a0 m3 (IntKind.i64.wrap (x3_1 + t4.2)))) else some (-1))
def utf_Check (k:Nat) (a0:Str):Option Int:=utf_Check.l0 k a0 k 0
theorem utf_Check.ok {k:Nat} {a0:Str} {r:Int} (H:utf_Check k a0=some r):Vx.Fn Tryz.prog 45 [(S a0)] [] (.v (.int .i64 r)) []:=by
 unfold utf_Check at H
 refine Vx.Fn.of_okR Tryz.func45 rfl (Nat.le_of_ble_eq_true rfl) ?_
 refine Ok.seq ?_
 refine .rg [(0,(S a0))] [] ?_
 refine Ok.seq ?_
 refine Ok.seq ?_
 refine .rg [(0,(S a0)),(3,(.v (.int .i64 0)))] [] ?_
 refine Ok.block ?_
 refine Ok.loop (fun m3 σ => ∃ (x3_1:Int),σ=⟨[(0,(S a0)),(3,(.v (.int .i64 x3_1)))],[]⟩ ∧ utf_Check.l0 k a0 m3 x3_1=some r) k ⟨0,rfl,H⟩ ?_
 rintro m3 σ ⟨x3_1,rfl,H⟩
 cases m3 with
 | zero => exact absurd H (by simp [utf_Check.l0])
 | succ m3 =>
  unfold utf_Check.l0 at H
  refine Ok.seq ?_
  refine Ok.seq ?_
  refine .rg [(0,(S a0)),(3,(.v (.int .i64 x3_1))),(9,(.v (.bool (decide (x3_1 < (a0.length:Int))))))] [] ?_
  refine Ok.test (b:=(decide (x3_1 < (a0.length:Int)))) rfl (fun hb7 => ?_) (fun hb7 => ?_)
  ·replace H:=ifT H hb7
   refine Ok.skip ?_
   refine Ok.block ?_
   refine Ok.seq ?_
   obtain⟨t4,h5,H⟩:=bindE H
   refine Ok.region (σ':=⟨[(0,(S a0)),(3,(.v (.int .i64 x3_1))),(5,(.v (.int .i64 t4.2)))],[]⟩) ?_ ?_
   ·refine .rn 2 ?_
    refine .cg (GOk.call rfl rfl cl59 rfl (utf_Rune.ok h5) rfl) rfl rfl ?_
    refine .rn 5 ?_
    exact .dn
   refine Ok.seq ?_
   refine Ok.seq ?_
   refine .rg [(0,(S a0)),(3,(.v (.int .i64 x3_1))),(5,(.v (.int .i64 t4.2))),(17,(.v (.bool (t4.2 == 0))))] [] ?_
   refine Ok.test (b:=(t4.2 == 0)) rfl (fun hb6 => ?_) (fun hb6 => ?_)
   ·replace H:=ifT H hb6
    cases H
   ·replace H:=ifF H hb6
    refine Ok.skip ?_
    refine .rg [(0,(S a0)),(3,(.v (.int .i64 (IntKind.i64.wrap (x3_1 + t4.2)))))] [] ?_
    exact⟨m3,Nat.lt_succ_self m3,(IntKind.i64.wrap (x3_1 + t4.2)),rfl,H⟩
  ·replace H:=ifF H hb7
   refine Ok.exit ?_
   refine Ok.seq ?_
   refine .rg [(2,(.v (.int .i64 (-1))))] [] ?_
   refine Ok.ret ?_
   obtain rfl:=Option.some.inj H
   exact⟨.inl rfl,⟨_,(.cons (.tmp rfl) .nil),rfl⟩,trivial⟩
def utf_within.l0 (k:Nat) (a0:Int) (a1:List T_utf_span):Nat→Int→Option Bool
 | 0,_ => none
 | m3 + 1,x9_1 => (if (decide (x9_1 < (a1.length:Int)))=true then (if (0:Int) ≤ x9_1 ∧ x9_1 < (a1.length:Int) then (if ((decide (a0 ≥ ((rd a1 x9_1).From_))) && (decide (a0 ≤ ((rd a1 x9_1).To_))))=true then some true else utf_within.l0 k a0 a1 m3 (IntKind.i64.wrap (x9_1 + 1))) else none) else some false)
def utf_within (k:Nat) (a0:Int) (a1:List T_utf_span):Option Bool:=utf_within.l0 k a0 a1 k 0
theorem utf_within.ok {k:Nat} {a0:Int} {a1:List T_utf_span} {r:Bool} (H:utf_within k a0 a1=some r):Vx.Fn Tryz.prog 80 [(.v (.int .i32 a0)),(L 2 e_utf_span a1)] [] (.v (.bool r)) []:=by
 unfold utf_within at H
 refine Vx.Fn.of_okR Tryz.func80 rfl (Nat.le_of_ble_eq_true rfl) ?_
 refine Ok.seq ?_
 refine .rg [(0,(.v (.int .i32 a0))),(1,(L 2 e_utf_span a1))] [] ?_
 refine Ok.seq ?_
 refine Ok.seq ?_
 refine Ok.region (σ':=⟨[(0,(.v (.int .i32 a0))),(7,(L 2 e_utf_span a1)),(8,(.v (.int .i64 (a1.length:Int)))),(9,(.v (.int .i64 0)))],[]⟩) ?_ ?_
 ·refine .rn 1 ?_
  refine .cv (VOk.lenL (e:=e_utf_span) (xs:=a1) rfl Tryz.underlying149 rfl) rfl rfl ?_
  refine .rn 1 ?_
  exact .dn
 refine Ok.block ?_
 refine Ok.loop (fun m3 σ => ∃ (x9_1:Int),σ=⟨[(0,(.v (.int .i32 a0))),(7,(L 2 e_utf_span a1)),(8,(.v (.int .i64 (a1.length:Int)))),(9,(.v (.int .i64 x9_1)))],[]⟩ ∧ utf_within.l0 k a0 a1 m3 x9_1=some r) k ⟨0,rfl,H⟩ ?_
 rintro m3 σ ⟨x9_1,rfl,H⟩
 cases m3 with
 | zero => exact absurd H (by simp [utf_within.l0])
 | succ m3 =>
  unfold utf_within.l0 at H
  refine Ok.seq ?_
  refine .rg [(0,(.v (.int .i32 a0))),(7,(L 2 e_utf_span a1)),(8,(.v (.int .i64 (a1.length:Int)))),(9,(.v (.int .i64 x9_1))),(10,(.v (.bool (decide (x9_1 < (a1.length:Int))))))] [] ?_
  refine Ok.seq ?_
  refine Ok.test (b:=(decide (x9_1 < (a1.length:Int)))) rfl (fun hb8 => ?_) (fun hb8 => ?_)
  ·replace H:=ifT H hb8
   refine Ok.skip ?_
   refine Ok.seq ?_
   refine Ok.block ?_
   refine Ok.seq ?_
   obtain⟨c4,H⟩:=assertE H
   refine Ok.region (σ':=⟨[(0,(.v (.int .i32 a0))),(6,(.bref 6 0)),(7,(L 2 e_utf_span a1)),(8,(.v (.int .i64 (a1.length:Int)))),(9,(.v (.int .i64 x9_1)))],[(6,(.box .ex [(.v (.int .i32 ((rd a1 x9_1).From_))),(.v (.int .i32 ((rd a1 x9_1).To_)))]))]⟩) ?_ ?_
   ·refine .cv (VOk.indexL (sz:=2) (e:=e_utf_span) (xs:=a1) (i:=x9_1) rfl Tryz.underlying149 sz126 rfl rfl c4) rfl rfl ?_
    refine .rn 3 ?_
    exact .dn
   refine Ok.seq ?_
   refine Ok.region (σ':=⟨[(0,(.v (.int .i32 a0))),(7,(L 2 e_utf_span a1)),(8,(.v (.int .i64 (a1.length:Int)))),(9,(.v (.int .i64 x9_1))),(22,(.v (.bool ((decide (a0 ≥ ((rd a1 x9_1).From_))) && (decide (a0 ≤ ((rd a1 x9_1).To_)))))))],[]⟩) ?_ ?_
   ·refine .rn 5 ?_
    refine OpsOk.consI rfl rfl rfl (.one rfl) rfl (fun hw5 => (VOk.g (VOk.mv (d:=(.v (.int .i32 a0))) rfl rfl))) ?_
    refine OpsOk.consI rfl rfl rfl (.one rfl) rfl (fun hw5 => (VOk.g (VOk.to (VOk.fieldB rfl Tryz.underlying126 rfl sz21 rfl rfl) rfl))) ?_
    refine OpsOk.consI rfl rfl rfl (.one rfl) rfl (fun hw5 => (GOk.fr (fr':=[(19,(.bref 6 1))]) ⟨DLe.of_eq (cT hw5).symm,trivial⟩ (VOk.g (VOk.loadB (d:=(.v (.int .i32 ((rd a1 x9_1).To_)))) rfl Tryz.underlying21 rfl rfl rfl rfl)))) ?_
    refine OpsOk.consI rfl rfl rfl (.one rfl) rfl (fun hw5 => (GOk.fr (fr':=[(18,(.v (.int .i32 a0))),(20,(.v (.int .i32 ((rd a1 x9_1).To_))))]) ⟨DLe.of_eq (cT hw5).symm,DLe.of_eq (cT hw5).symm,trivial⟩ (VOk.g (VOk.arith (op:=.leq) (k:=.i32) (a:=a0) (b:=(rd a1 x9_1).To_) rfl rfl rfl rfl)))) ?_
    refine .cv (VOk.to (VOk.pickI (b:=(decide (a0 ≥ ((rd a1 x9_1).From_)))) (p:=(decide (a0 ≤ ((rd a1 x9_1).To_)))) (q:=false) rfl rfl (fun hp6 => (cT (t_beq hp6))) (fun hp6 => rfl)) (pickAnd (decide (a0 ≥ ((rd a1 x9_1).From_))) (decide (a0 ≤ ((rd a1 x9_1).To_))))) rfl rfl ?_
    exact .dn
   refine Ok.test (b:=((decide (a0 ≥ ((rd a1 x9_1).From_))) && (decide (a0 ≤ ((rd a1 x9_1).To_))))) rfl (fun hb7 => ?_) (fun hb7 => ?_)
   ·replace H:=ifT H hb7
    refine Ok.seq ?_
    refine .rg [(4,(.v (.bool true)))] [] ?_
    refine Ok.ret ?_
    obtain rfl:=Option.some.inj H
    exact⟨.inl rfl,⟨_,(.cons (.tmp rfl) .nil),rfl⟩,trivial⟩
   ·replace H:=ifF H hb7
    refine Ok.skip ?_
    refine .rg [(0,(.v (.int .i32 a0))),(7,(L 2 e_utf_span a1)),(8,(.v (.int .i64 (a1.length:Int)))),(9,(.v (.int .i64 (IntKind.i64.wrap (x9_1 + 1)))))] [] ?_
    exact⟨m3,Nat.lt_succ_self m3,(IntKind.i64.wrap (x9_1 + 1)),rfl,H⟩
  ·replace H:=ifF H hb8
   refine Ok.exit ?_
   refine Ok.seq ?_
   refine .rg [(4,(.v (.bool false)))] [] ?_
   refine Ok.ret ?_
   obtain rfl:=Option.some.inj H
   exact⟨.inl rfl,⟨_,(.cons (.tmp rfl) .nil),rfl⟩,trivial⟩
def utf_Char (k:Nat) (a0:Int):Option Bool:=((utf_within k a0 ([(T_utf_span.mk 9 10),(T_utf_span.mk 13 13),(T_utf_span.mk 32 55295),(T_utf_span.mk 57344 65533),(T_utf_span.mk 65536 1114111)]:List T_utf_span)).bind fun (t1:Bool) => some t1)
theorem utf_Char.ok {k:Nat} {a0:Int} {r:Bool} (H:utf_Char k a0=some r):Vx.Fn Tryz.prog 60 [(.v (.int .i32 a0))] [] (.v (.bool r)) []:=by
 unfold utf_Char at H
 refine Vx.Fn.of_okR Tryz.func60 rfl (Nat.le_of_ble_eq_true rfl) ?_
 refine Ok.seq ?_
 refine .rg [(0,(.v (.int .i32 a0)))] [] ?_
 refine Ok.seq ?_
 obtain⟨t1,h2,H⟩:=bindE H
 refine Ok.region (σ':=⟨[(2,(.v (.bool t1)))],[]⟩) ?_ ?_
 ·refine .rn 1 ?_
  refine .cv (VOk.to (d':=(.agg (e_utf_span (T_utf_span.mk 9 10)))) (.build [none,none] [(0,1),(1,1)] rfl Tryz.underlying126 (fa126 Tryz.underlying126) zo126 rfl rfl) rfl) rfl rfl ?_
  refine .cv (VOk.to (d':=(.agg (e_utf_span (T_utf_span.mk 13 13)))) (.build [none,none] [(0,1),(1,1)] rfl Tryz.underlying126 (fa126 Tryz.underlying126) zo126 rfl rfl) rfl) rfl rfl ?_
  refine .cv (VOk.to (d':=(.agg (e_utf_span (T_utf_span.mk 32 55295)))) (.build [none,none] [(0,1),(1,1)] rfl Tryz.underlying126 (fa126 Tryz.underlying126) zo126 rfl rfl) rfl) rfl rfl ?_
  refine .cv (VOk.to (d':=(.agg (e_utf_span (T_utf_span.mk 57344 65533)))) (.build [none,none] [(0,1),(1,1)] rfl Tryz.underlying126 (fa126 Tryz.underlying126) zo126 rfl rfl) rfl) rfl rfl ?_
  refine .cv (VOk.to (d':=(.agg (e_utf_span (T_utf_span.mk 65536 1114111)))) (.build [none,none] [(0,1),(1,1)] rfl Tryz.underlying126 (fa126 Tryz.underlying126) zo126 rfl rfl) rfl) rfl rfl ?_
  refine .cg (GOk.to (d':=(L 2 e_utf_span ([(T_utf_span.mk 9 10),(T_utf_span.mk 13 13),(T_utf_span.mk 32 55295),(T_utf_span.mk 57344 65533),(T_utf_span.mk 65536 1114111)]:List T_utf_span))) (GOk.lit rfl Tryz.underlying149 sz126 zs126 rfl rfl rfl rfl) rfl) rfl rfl ?_
  refine .cg (GOk.call rfl rfl cl80 rfl (utf_within.ok h2) rfl) rfl rfl ?_
  refine .rn 1 ?_
  exact .dn
 refine Ok.ret ?_
 obtain rfl:=Option.some.inj H
 exact⟨.inl rfl,⟨_,(.cons (.tmp rfl) .nil),rfl⟩,trivial⟩
def lex_char.l0 (k:Nat) (a0:Str):Nat→Int→Option Int
 | 0,_ => none
 | m3 + 1,x3_1 => (if (decide (x3_1 < (a0.length:Int)))=true then ((utf_Rune k a0 x3_1).bind fun (t4:Int × Int) => ((utf_Char k t4.1).bind fun (t6:Bool) => (if (!t6)=true then none else lex_char.l0 k a0 m3 (IntKind.i64.wrap (x3_1 + t4.2))))) else some (-1))
def lex_char (k:Nat) (a0:Str):Option Int:=lex_char.l0 k a0 k 0
theorem lex_char.ok {k:Nat} {a0:Str} {r:Int} (H:lex_char k a0=some r):Vx.Fn Tryz.prog 46 [(S a0)] [] (.v (.int .i64 r)) []:=by
 unfold lex_char at H
 refine Vx.Fn.of_okR Tryz.func46 rfl (Nat.le_of_ble_eq_true rfl) ?_
 refine Ok.seq ?_
 refine .rg [(0,(S a0))] [] ?_
 refine Ok.seq ?_
 refine Ok.seq ?_
 refine .rg [(0,(S a0)),(3,(.v (.int .i64 0)))] [] ?_
 refine Ok.block ?_
 refine Ok.loop (fun m3 σ => ∃ (x3_1:Int),σ=⟨[(0,(S a0)),(3,(.v (.int .i64 x3_1)))],[]⟩ ∧ lex_char.l0 k a0 m3 x3_1=some r) k ⟨0,rfl,H⟩ ?_
 rintro m3 σ ⟨x3_1,rfl,H⟩
 cases m3 with
 | zero => exact absurd H (by simp [lex_char.l0])
 | succ m3 =>
  unfold lex_char.l0 at H
  refine Ok.seq ?_
  refine Ok.seq ?_
  refine .rg [(0,(S a0)),(3,(.v (.int .i64 x3_1))),(9,(.v (.bool (decide (x3_1 < (a0.length:Int))))))] [] ?_
  refine Ok.test (b:=(decide (x3_1 < (a0.length:Int)))) rfl (fun hb9 => ?_) (fun hb9 => ?_)
  ·replace H:=ifT H hb9
   refine Ok.skip ?_
   refine Ok.block ?_
   refine Ok.seq ?_
   obtain⟨t4,h5,H⟩:=bindE H
   refine Ok.region (σ':=⟨[(0,(S a0)),(3,(.v (.int .i64 x3_1))),(4,(.v (.int .i32 t4.1))),(5,(.v (.int .i64 t4.2)))],[]⟩) ?_ ?_
   ·refine .rn 2 ?_
    refine .cg (GOk.call rfl rfl cl59 rfl (utf_Rune.ok h5) rfl) rfl rfl ?_
    refine .rn 5 ?_
    exact .dn
   refine Ok.seq ?_
   refine Ok.seq ?_
   obtain⟨t6,h7,H⟩:=bindE H
   refine Ok.region (σ':=⟨[(0,(S a0)),(3,(.v (.int .i64 x3_1))),(5,(.v (.int .i64 t4.2))),(18,(.v (.bool (!t6))))],[]⟩) ?_ ?_
   ·refine .rn 1 ?_
    refine .cg (GOk.call rfl rfl cl60 rfl (utf_Char.ok h7) rfl) rfl rfl ?_
    refine .rn 1 ?_
    exact .dn
   refine Ok.test (b:=(!t6)) rfl (fun hb8 => ?_) (fun hb8 => ?_)
   ·replace H:=ifT H hb8
    cases H
   ·replace H:=ifF H hb8
    refine Ok.skip ?_
    refine .rg [(0,(S a0)),(3,(.v (.int .i64 (IntKind.i64.wrap (x3_1 + t4.2)))))] [] ?_
    exact⟨m3,Nat.lt_succ_self m3,(IntKind.i64.wrap (x3_1 + t4.2)),rfl,H⟩
  ·replace H:=ifF H hb9
   refine Ok.exit ?_
   refine Ok.seq ?_
   refine .rg [(2,(.v (.int .i64 (-1))))] [] ?_
   refine Ok.ret ?_
   obtain rfl:=Option.some.inj H
   exact⟨.inl rfl,⟨_,(.cons (.tmp rfl) .nil),rfl⟩,trivial⟩
def stringslite_HasPrefix (a0:Str) (a1:Str):Option Bool:=(if (((decide ((a0.length:Int) ≥ (a1.length:Int))) == true)=true→(0:Int) ≤ 0 ∧ (0:Int) ≤ (a1.length:Int) ∧ (a1.length:Int) ≤ (a0.length:Int)) then some ((decide ((a0.length:Int) ≥ (a1.length:Int))) && ((sl a0 0 (a1.length:Int)) == a1)) else none)
theorem stringslite_HasPrefix.ok {a0:Str} {a1:Str} {r:Bool} (H:stringslite_HasPrefix a0 a1=some r):Vx.Fn Tryz.prog 81 [(S a0),(S a1)] [] (.v (.bool r)) []:=by
 unfold stringslite_HasPrefix at H
 refine Vx.Fn.of_okR Tryz.func81 rfl (Nat.le_of_ble_eq_true rfl) ?_
 refine Ok.seq ?_
 refine .rg [(0,(S a0)),(1,(S a1))] [] ?_
 refine Ok.seq ?_
 obtain⟨c2,H⟩:=assertE H
 refine Ok.region (σ':=⟨[(4,(.v (.bool ((decide ((a0.length:Int) ≥ (a1.length:Int))) && ((sl a0 0 (a1.length:Int)) == a1)))))],[]⟩) ?_ ?_
 ·refine .rn 6 ?_
  refine OpsOk.consI rfl rfl rfl (.one rfl) rfl (fun hw1 => (VOk.g (VOk.mv (d:=(S a0)) rfl rfl))) ?_
  refine OpsOk.consI rfl rfl rfl (.one rfl) rfl (fun hw1 => (VOk.g (VOk.mv (d:=(S a1)) rfl rfl))) ?_
  refine OpsOk.consI rfl rfl rfl (.one rfl) rfl (fun hw1 => (GOk.fr (fr':=[(12,(S a1))]) ⟨DLe.of_eq (cT hw1).symm,trivial⟩ (VOk.g (VOk.lenStr (s:=a1) rfl Tryz.underlying9 rfl)))) ?_
  refine OpsOk.consI rfl rfl rfl (.one rfl) rfl (fun hw1 => (GOk.fr (fr':=[(11,(S a0)),(13,(.v (.int .i64 (a1.length:Int))))]) ⟨DLe.of_eq (cT hw1).symm,DLe.of_eq (cT hw1).symm,trivial⟩ (VOk.g (VOk.sliceStr (s:=a0) (l:=0) (h:=(a1.length:Int)) rfl Tryz.underlying9 rfl rfl rfl (c2 hw1))))) ?_
  refine OpsOk.consI rfl rfl rfl (.one rfl) rfl (fun hw1 => (VOk.g (VOk.mv (d:=(S a1)) rfl rfl))) ?_
  refine OpsOk.consI rfl rfl rfl (.one rfl) rfl (fun hw1 => (GOk.fr (fr':=[(14,(S (sl a0 0 (a1.length:Int)))),(15,(S a1))]) ⟨DLe.of_eq (cT hw1).symm,DLe.of_eq (cT hw1).symm,trivial⟩ (VOk.g (VOk.strOp (op:=.eql) (a:=(sl a0 0 (a1.length:Int))) (b:=a1) rfl rfl rfl rfl)))) ?_
  refine .cv (VOk.to (VOk.pickI (b:=(decide ((a0.length:Int) ≥ (a1.length:Int)))) (p:=((sl a0 0 (a1.length:Int)) == a1)) (q:=false) rfl rfl (fun hp3 => (cT (t_beq hp3))) (fun hp3 => rfl)) (pickAnd (decide ((a0.length:Int) ≥ (a1.length:Int))) ((sl a0 0 (a1.length:Int)) == a1))) rfl rfl ?_
  refine .rn 1 ?_
  exact .dn
 refine Ok.ret ?_
 obtain rfl:=Option.some.inj H
 exact⟨.inl rfl,⟨_,(.cons (.tmp rfl) .nil),rfl⟩,trivial⟩
def strings_HasPrefix (a0:Str) (a1:Str):Option Bool:=((stringslite_HasPrefix a0 a1).bind fun (t1:Bool) => some t1)
theorem strings_HasPrefix.ok {a0:Str} {a1:Str} {r:Bool} (H:strings_HasPrefix a0 a1=some r):Vx.Fn Tryz.prog 61 [(S a0),(S a1)] [] (.v (.bool r)) []:=by
 unfold strings_HasPrefix at H
 refine Vx.Fn.of_okR Tryz.func61 rfl (Nat.le_of_ble_eq_true rfl) ?_
 refine Ok.seq ?_
 refine .rg [(0,(S a0)),(1,(S a1))] [] ?_
 refine Ok.seq ?_
 obtain⟨t1,h2,H⟩:=bindE H
 refine Ok.region (σ':=⟨[(4,(.v (.bool t1)))],[]⟩) ?_ ?_
 ·refine .rn 2 ?_
  refine .cg (GOk.call rfl rfl cl81 rfl (stringslite_HasPrefix.ok h2) rfl) rfl rfl ?_
  refine .rn 1 ?_
  exact .dn
 refine Ok.ret ?_
 obtain rfl:=Option.some.inj H
 exact⟨.inl rfl,⟨_,(.cons (.tmp rfl) .nil),rfl⟩,trivial⟩
def lex_lexer_next (a0:T_lex_lexer) (a1:Str):Option Bool:=(if (0:Int) ≤ a0.At_ ∧ a0.At_ ≤ (a0.S_.length:Int) ∧ (a0.S_.length:Int) ≤ (a0.S_.length:Int) then ((strings_HasPrefix (sl a0.S_ a0.At_ (a0.S_.length:Int)) a1).bind fun (t2:Bool) => some t2) else none)
theorem lex_lexer_next.ok {a0:T_lex_lexer} {a1:Str} {r:Bool} (H:lex_lexer_next a0 a1=some r):Vx.Fn Tryz.prog 48 [(.fp (e_lex_lexer a0) 0),(S a1)] [] (.v (.bool r)) []:=by
 unfold lex_lexer_next at H
 refine Vx.Fn.of_okR Tryz.func48 rfl (Nat.le_of_ble_eq_true rfl) ?_
 refine Ok.seq ?_
 refine .rg [(0,(.fp (e_lex_lexer a0) 0)),(1,(S a1))] [] ?_
 refine Ok.seq ?_
 obtain⟨c1,H⟩:=assertE H
 obtain⟨t2,h3,H⟩:=bindE H
 refine .dA [(4,(.v (.bool t2)))] [] [[],[0],[1],[2],[],[4],[5],[6],[3,7],[],[8,9],[10]] mixed ?_ ?_
 ·refine .tn 8 ?_
  refine .tc (VOk.g (VOk.sliceStr (s:=a0.S_) (l:=a0.At_) (h:=(a0.S_.length:Int)) rfl Tryz.underlying9 rfl rfl rfl c1)) ?_
  refine .tn 1 ?_
  refine .tc (GOk.call rfl rfl cl61 rfl (strings_HasPrefix.ok h3) rfl) ?_
  refine .tn 1 ?_
  exact .dn
 refine Ok.ret ?_
 obtain rfl:=Option.some.inj H
 exact⟨.inl rfl,⟨_,(.cons (.tmp rfl) .nil),rfl⟩,trivial⟩
def utf_Blank (a0:Int):Option Bool:=some ((((a0 == 32) || (a0 == 9)) || (a0 == 10)) || (a0 == 13))
theorem utf_Blank.ok {a0:Int} {r:Bool} (H:utf_Blank a0=some r):Vx.Fn Tryz.prog 49 [(.v (.int .u8 a0))] [] (.v (.bool r)) []:=by
 unfold utf_Blank at H
 refine Vx.Fn.of_okR Tryz.func49 rfl (Nat.le_of_ble_eq_true rfl) ?_
 refine Ok.seq ?_
 refine .rg [(0,(.v (.int .u8 a0)))] [] ?_
 refine Ok.seq ?_
 refine Ok.region (σ':=⟨[(2,(.v (.bool ((((a0 == 32) || (a0 == 9)) || (a0 == 10)) || (a0 == 13)))))],[]⟩) ?_ ?_
 ·refine .rn 3 ?_
  refine OpsOk.consI rfl rfl rfl (.one rfl) rfl (fun hw1 => (VOk.g (VOk.mv (d:=(.v (.int .u8 a0))) rfl rfl))) ?_
  refine OpsOk.consI rfl rfl rfl (.one rfl) rfl (fun hw1 => (GOk.fr (fr':=[(6,(.v (.int .u8 a0)))]) ⟨DLe.of_eq (cT hw1).symm,trivial⟩ (VOk.g (VOk.arith (op:=.eql) (k:=.u8) (a:=a0) (b:=9) rfl rfl rfl rfl)))) ?_
  refine .cv (VOk.to (VOk.pickI (b:=(a0 == 32)) (p:=true) (q:=(a0 == 9)) rfl rfl (fun hp2 => rfl) (fun hp2 => (cT (f_beq hp2)))) (pickOr (a0 == 32) (a0 == 9))) rfl rfl ?_
  refine .rn 1 ?_
  refine OpsOk.consI rfl rfl rfl (.one rfl) rfl (fun hw3 => (VOk.g (VOk.mv (d:=(.v (.int .u8 a0))) rfl rfl))) ?_
  refine OpsOk.consI rfl rfl rfl (.one rfl) rfl (fun hw3 => (GOk.fr (fr':=[(10,(.v (.int .u8 a0)))]) ⟨DLe.of_eq (cT hw3).symm,trivial⟩ (VOk.g (VOk.arith (op:=.eql) (k:=.u8) (a:=a0) (b:=10) rfl rfl rfl rfl)))) ?_
  refine .cv (VOk.to (VOk.pickI (b:=((a0 == 32) || (a0 == 9))) (p:=true) (q:=(a0 == 10)) rfl rfl (fun hp4 => rfl) (fun hp4 => (cT (f_beq hp4)))) (pickOr ((a0 == 32) || (a0 == 9)) (a0 == 10))) rfl rfl ?_
  refine .rn 1 ?_
  refine OpsOk.consI rfl rfl rfl (.one rfl) rfl (fun hw5 => (VOk.g (VOk.mv (d:=(.v (.int .u8 a0))) rfl rfl))) ?_
  refine OpsOk.consI rfl rfl rfl (.one rfl) rfl (fun hw5 => (GOk.fr (fr':=[(14,(.v (.int .u8 a0)))]) ⟨DLe.of_eq (cT hw5).symm,trivial⟩ (VOk.g (VOk.arith (op:=.eql) (k:=.u8) (a:=a0) (b:=13) rfl rfl rfl rfl)))) ?_
  refine .cv (VOk.to (VOk.pickI (b:=(((a0 == 32) || (a0 == 9)) || (a0 == 10))) (p:=true) (q:=(a0 == 13)) rfl rfl (fun hp6 => rfl) (fun hp6 => (cT (f_beq hp6)))) (pickOr (((a0 == 32) || (a0 == 9)) || (a0 == 10)) (a0 == 13))) rfl rfl ?_
  refine .rn 1 ?_
  exact .dn
 refine Ok.ret ?_
 obtain rfl:=Option.some.inj H
 exact⟨.inl rfl,⟨_,(.cons (.tmp rfl) .nil),rfl⟩,trivial⟩
def stringslite_IndexByte (a0:Str) (a1:Int):Option Int:=some (Lib.indexByte a0 (Int.toNat a1).toUInt8)
theorem stringslite_IndexByte.ok {a0:Str} {a1:Int} {r:Int} (H:stringslite_IndexByte a0 a1=some r):Vx.Fn Tryz.prog 103 [(S a0),(.v (.int .u8 a1))] [] (.v (.int .i64 r)) []:=by
 unfold stringslite_IndexByte at H
 refine Vx.Fn.of_okR Tryz.func103 rfl (Nat.le_of_ble_eq_true rfl) ?_
 refine Ok.seq ?_
 refine .rg [(0,(S a0)),(1,(.v (.int .u8 a1)))] [] ?_
 refine Ok.seq ?_
 refine Ok.region (σ':=⟨[(4,(.v (.int .i64 (Lib.indexByte a0 (Int.toNat a1).toUInt8))))],[]⟩) ?_ ?_
 ·refine .rn 2 ?_
  refine .cv (VOk.idxByte (s:=a0) (c:=a1) rfl rfl Tryz.func120 rfl rfl (by kernel_rfl) xt120 rfl rfl) rfl rfl ?_
  refine .rn 1 ?_
  exact .dn
 refine Ok.ret ?_
 obtain rfl:=Option.some.inj H
 exact⟨.inl rfl,⟨_,(.cons (.tmp rfl) .nil),rfl⟩,trivial⟩
def strings_IndexByte (a0:Str) (a1:Int):Option Int:=((stringslite_IndexByte a0 a1).bind fun (t1:Int) => some t1)
theorem strings_IndexByte.ok {a0:Str} {a1:Int} {r:Int} (H:strings_IndexByte a0 a1=some r):Vx.Fn Tryz.prog 91 [(S a0),(.v (.int .u8 a1))] [] (.v (.int .i64 r)) []:=by
 unfold strings_IndexByte at H
 refine Vx.Fn.of_okR Tryz.func91 rfl (Nat.le_of_ble_eq_true rfl) ?_
 refine Ok.seq ?_
 refine .rg [(0,(S a0)),(1,(.v (.int .u8 a1)))] [] ?_
 refine Ok.seq ?_
 obtain⟨t1,h2,H⟩:=bindE H
 refine Ok.region (σ':=⟨[(4,(.v (.int .i64 t1)))],[]⟩) ?_ ?_
 ·refine .rn 2 ?_
  refine .cg (GOk.call rfl rfl cl103 rfl (stringslite_IndexByte.ok h2) rfl) rfl rfl ?_
  refine .rn 1 ?_
  exact .dn
 refine Ok.ret ?_
 obtain rfl:=Option.some.inj H
 exact⟨.inl rfl,⟨_,(.cons (.tmp rfl) .nil),rfl⟩,trivial⟩
def lex_part (a0:Int):Option Bool:=((utf_Blank a0).bind fun (t1:Bool) => (((if ((!t1) == true)=true then strings_IndexByte ([47,62,61,60,34,39,38]:Str) a0 else some default)).bind fun (t4:Int) => some ((!t1) && (decide (t4 < 0)))))
theorem lex_part.ok {a0:Int} {r:Bool} (H:lex_part a0=some r):Vx.Fn Tryz.prog 89 [(.v (.int .u8 a0))] [] (.v (.bool r)) []:=by
 unfold lex_part at H
 refine Vx.Fn.of_okR Tryz.func89 rfl (Nat.le_of_ble_eq_true rfl) ?_
 refine Ok.seq ?_
 refine .rg [(0,(.v (.int .u8 a0)))] [] ?_
 refine Ok.seq ?_
 obtain⟨t1,h2,H⟩:=bindE H
 obtain⟨t4,h5,H⟩:=bindE H
 refine Ok.region (σ':=⟨[(2,(.v (.bool ((!t1) && (decide (t4 < 0))))))],[]⟩) ?_ ?_
 ·refine .rn 1 ?_
  refine .cg (GOk.call rfl rfl cl49 rfl (utf_Blank.ok h2) rfl) rfl rfl ?_
  refine .rn 2 ?_
  refine OpsOk.consI rfl rfl rfl (.one rfl) rfl (fun hw3 => (VOk.g (VOk.mv (d:=(.v (.int .u8 a0))) rfl rfl))) ?_
  refine OpsOk.consI rfl rfl rfl (.one rfl) rfl (fun hw3 => (GOk.fr (fr':=[(7,(.v (.int .u8 a0)))]) ⟨DLe.of_eq (cT hw3).symm,trivial⟩ (GOk.call rfl rfl cl91 rfl (strings_IndexByte.ok (ifT h5 hw3)) rfl))) ?_
  refine OpsOk.consI rfl rfl rfl (.one rfl) rfl (fun hw3 => (GOk.fr (fr':=[(8,(.v (.int .i64 t4)))]) ⟨DLe.of_eq (cT hw3).symm,trivial⟩ (VOk.g (VOk.arith (op:=.lss) (k:=.i64) (a:=t4) (b:=0) rfl rfl rfl rfl)))) ?_
  refine .cv (VOk.to (VOk.pickI (b:=(!t1)) (p:=(decide (t4 < 0))) (q:=false) rfl rfl (fun hp6 => (cT (t_beq hp6))) (fun hp6 => rfl)) (pickAnd (!t1) (decide (t4 < 0)))) rfl rfl ?_
  refine .rn 1 ?_
  exact .dn
 refine Ok.ret ?_
 obtain rfl:=Option.some.inj H
 exact⟨.inl rfl,⟨_,(.cons (.tmp rfl) .nil),rfl⟩,trivial⟩
def lex_lexer_word.l0 (k:Nat) (a0:T_lex_lexer):Nat→Str→Int→List T_api_Token→Option (Str × T_lex_lexer)
 | 0,_,_,_ => none
 | m7 + 1,y0_0_1,y0_1_2,y1002_3 => (if (((decide (y0_1_2 < (y0_0_1.length:Int))) == true)=true→(0:Int) ≤ y0_1_2 ∧ y0_1_2 < (y0_0_1.length:Int)) then (((if ((decide (y0_1_2 < (y0_0_1.length:Int))) == true)=true then lex_part (bt y0_0_1 y0_1_2) else some default)).bind fun (t10:Bool) => (if ((decide (y0_1_2 < (y0_0_1.length:Int))) && t10)=true then lex_lexer_word.l0 k a0 m7 y0_0_1 (IntKind.i64.wrap (y0_1_2 + 1)) y1002_3 else (if (y0_1_2 == (y0_0_1.length:Int))=true then none else (if (y0_1_2 == a0.At_)=true then none else (if (0:Int) ≤ a0.At_ ∧ a0.At_ ≤ y0_1_2 ∧ y0_1_2 ≤ (y0_0_1.length:Int) then some ((sl y0_0_1 a0.At_ y0_1_2),(T_lex_lexer.mk y0_0_1 y0_1_2 y1002_3)) else none))))) else none)
def lex_lexer_word (k:Nat) (a0:T_lex_lexer) (a1:Int):Option (Str × T_lex_lexer):=lex_lexer_word.l0 k a0 k a0.S_ a0.At_ a0.L_
theorem lex_lexer_word.ok {k:Nat} {a0:T_lex_lexer} {a1:Int} {r:Str × T_lex_lexer} (H:lex_lexer_word k a0 a1=some r) (b:Nat):Vx.Fn Tryz.prog 88 [(.bref 0 0),(.v (.int .i64 a1))] [(0,(lxB b a0)),(1002,(.rows true 78 5 (a0.L_.map e_api_Token)))] (S r.1) [(0,(lxB b r.2)),(1002,(.rows true 78 5 (r.2.L_.map e_api_Token))),(999,.none)]:=by
 unfold lex_lexer_word at H
 refine Vx.Fn.of_okR Tryz.func88 rfl (Nat.le_of_ble_eq_true rfl) ?_
 refine Ok.seq ?_
 refine .rg [(0,(.bref 0 0))] [(0,(lxB b a0)),(1002,(.rows true 78 5 (a0.L_.map e_api_Token)))] ?_
 refine Ok.seq ?_
 refine .rg [(0,(.bref 0 0)),(5,(.v (.int .i64 a0.At_)))] [(0,(lxB b a0)),(1002,(.rows true 78 5 (a0.L_.map e_api_Token)))] ?_
 refine Ok.seq ?_
 refine Ok.block ?_
 refine Ok.loop (fun m7 σ => ∃ (y0_0_1:Str) (y0_1_2:Int) (y1002_3:List T_api_Token),σ=⟨[(0,(.bref 0 0)),(5,(.v (.int .i64 a0.At_)))],[(0,(.box (.at b) [(S y0_0_1),(.v (.int .i64 y0_1_2)),(.sref 1002)])),(1002,(.rows true 78 5 (y1002_3.map e_api_Token)))]⟩ ∧ lex_lexer_word.l0 k a0 m7 y0_0_1 y0_1_2 y1002_3=some r) k ⟨a0.S_,a0.At_,a0.L_,rfl,H⟩ ?_
 rintro m7 σ ⟨y0_0_1,y0_1_2,y1002_3,rfl,H⟩
 cases m7 with
 | zero => exact absurd H (by simp [lex_lexer_word.l0])
 | succ m7 =>
  unfold lex_lexer_word.l0 at H
  refine Ok.seq ?_
  refine Ok.seq ?_
  obtain⟨c9,H⟩:=assertE H
  obtain⟨t10,h11,H⟩:=bindE H
  refine Ok.drawE (σ':=⟨[(0,(.bref 0 0)),(5,(.v (.int .i64 a0.At_))),(31,(.v (.bool ((decide (y0_1_2 < (y0_0_1.length:Int))) && t10))))],[(0,(.box (.at b) [(S y0_0_1),(.v (.int .i64 y0_1_2)),(.sref 1002)])),(1002,(.rows true 78 5 (y1002_3.map e_api_Token)))]⟩) [⟨true,[(0,(.bref 0 0))],(.bref 0 0)⟩,⟨true,[(10,(.bref 0 0))],(.bref 0 0)⟩,⟨true,[(11,(.bref 0 0))],(.bref 0 1)⟩,⟨true,[(12,(.bref 0 1))],(.v (.int .i64 y0_1_2))⟩,⟨true,[(0,(.bref 0 0))],(.bref 0 0)⟩,⟨true,[(14,(.bref 0 0))],(.bref 0 0)⟩,⟨true,[(15,(.bref 0 0))],(.bref 0 0)⟩,⟨true,[(16,(.bref 0 0))],(S y0_0_1)⟩,⟨true,[(17,(S y0_0_1))],(.v (.int .i64 (y0_0_1.length:Int)))⟩,⟨true,[(13,(.v (.int .i64 y0_1_2))),(18,(.v (.int .i64 (y0_0_1.length:Int))))],(.v (.bool (decide (y0_1_2 < (y0_0_1.length:Int)))))⟩,⟨true,[(19,(.v (.bool (decide (y0_1_2 < (y0_0_1.length:Int))))))],(.v (.bool (decide (y0_1_2 < (y0_0_1.length:Int)))))⟩,It.I ((decide (y0_1_2 < (y0_0_1.length:Int))) == true) [(0,(.bref 0 0)),(20,(.v (.bool (decide (y0_1_2 < (y0_0_1.length:Int))))))] (.bref 0 0),It.I ((decide (y0_1_2 < (y0_0_1.length:Int))) == true) [(21,(bif ((decide (y0_1_2 < (y0_0_1.length:Int))) == true) then (.bref 0 0) else .v undef)),(20,(.v (.bool (decide (y0_1_2 < (y0_0_1.length:Int))))))] (.bref 0 0),It.I ((decide (y0_1_2 < (y0_0_1.length:Int))) == true) [(22,(bif ((decide (y0_1_2 < (y0_0_1.length:Int))) == true) then (.bref 0 0) else .v undef)),(20,(.v (.bool (decide (y0_1_2 < (y0_0_1.length:Int))))))] (.bref 0 0),It.I ((decide (y0_1_2 < (y0_0_1.length:Int))) == true) [(23,(bif ((decide (y0_1_2 < (y0_0_1.length:Int))) == true) then (.bref 0 0) else .v undef)),(20,(.v (.bool (decide (y0_1_2 < (y0_0_1.length:Int))))))] (S y0_0_1),It.I ((decide (y0_1_2 < (y0_0_1.length:Int))) == true) [(0,(.bref 0 0)),(20,(.v (.bool (decide (y0_1_2 < (y0_0_1.length:Int))))))] (.bref 0 0),It.I ((decide (y0_1_2 < (y0_0_1.length:Int))) == true) [(25,(bif ((decide (y0_1_2 < (y0_0_1.length:Int))) == true) then (.bref 0 0) else .v undef)),(20,(.v (.bool (decide (y0_1_2 < (y0_0_1.length:Int))))))] (.bref 0 0),It.I ((decide (y0_1_2 < (y0_0_1.length:Int))) == true) [(26,(bif ((decide (y0_1_2 < (y0_0_1.length:Int))) == true) then (.bref 0 0) else .v undef)),(20,(.v (.bool (decide (y0_1_2 < (y0_0_1.length:Int))))))] (.bref 0 1),It.I ((decide (y0_1_2 < (y0_0_1.length:Int))) == true) [(27,(bif ((decide (y0_1_2 < (y0_0_1.length:Int))) == true) then (.bref 0 1) else .v undef)),(20,(.v (.bool (decide (y0_1_2 < (y0_0_1.length:Int))))))] (.v (.int .i64 y0_1_2)),It.I ((decide (y0_1_2 < (y0_0_1.length:Int))) == true) [(24,(bif ((decide (y0_1_2 < (y0_0_1.length:Int))) == true) then (S y0_0_1) else .v undef)),(28,(bif ((decide (y0_1_2 < (y0_0_1.length:Int))) == true) then (.v (.int .i64 y0_1_2)) else .v undef)),(20,(.v (.bool (decide (y0_1_2 < (y0_0_1.length:Int))))))] (.v (.int .u8 (bt y0_0_1 y0_1_2))),It.I ((decide (y0_1_2 < (y0_0_1.length:Int))) == true) [(29,(bif ((decide (y0_1_2 < (y0_0_1.length:Int))) == true) then (.v (.int .u8 (bt y0_0_1 y0_1_2))) else .v undef)),(20,(.v (.bool (decide (y0_1_2 < (y0_0_1.length:Int))))))] (.v (.bool t10)),⟨true,[(20,(.v (.bool (decide (y0_1_2 < (y0_0_1.length:Int)))))),(30,(bif ((decide (y0_1_2 < (y0_0_1.length:Int))) == true) then (.v (.bool t10)) else .v undef))],(.v (.bool ((decide (y0_1_2 < (y0_0_1.length:Int))) && t10)))⟩] [[],[0],[1],[2],[],[4],[5],[6],[7],[3,8],[9],[10],[10,11],[10,12],[10,13],[10],[10,15],[10,16],[10,17],[10,14,18],[10,19],[10,20]] mixed (by kernel_rfl) ?_ ?_
  ·refine TxtE.cons rfl ⟨.same _,trivial⟩ rfl (VOk.g (VOk.mv (d:=(.bref 0 0)) rfl rfl)) ?_
   refine TxtE.cons rfl ⟨.same _,trivial⟩ rfl (VOk.g (VOk.nilCheckB rfl rfl rfl)) ?_
   refine TxtE.cons rfl ⟨.same _,trivial⟩ rfl (VOk.g (VOk.to (VOk.fieldB rfl Tryz.underlying94 rfl sz3 rfl rfl) rfl)) ?_
   refine TxtE.cons rfl ⟨.same _,trivial⟩ rfl (VOk.g (VOk.loadB (d:=(.v (.int .i64 y0_1_2))) rfl Tryz.underlying3 rfl rfl rfl rfl)) ?_
   refine TxtE.cons rfl ⟨.same _,trivial⟩ rfl (VOk.g (VOk.mv (d:=(.bref 0 0)) rfl rfl)) ?_
   refine TxtE.cons rfl ⟨.same _,trivial⟩ rfl (VOk.g (VOk.nilCheckB rfl rfl rfl)) ?_
   refine TxtE.cons rfl ⟨.same _,trivial⟩ rfl (VOk.g (VOk.to (VOk.fieldB rfl Tryz.underlying94 rfl sz9 rfl rfl) rfl)) ?_
   refine TxtE.cons rfl ⟨.same _,trivial⟩ rfl (VOk.g (VOk.loadB (d:=(S y0_0_1)) rfl Tryz.underlying9 rfl rfl rfl rfl)) ?_
   refine TxtE.cons rfl ⟨.same _,trivial⟩ rfl (VOk.g (VOk.lenStr (s:=y0_0_1) rfl Tryz.underlying9 rfl)) ?_
   refine TxtE.cons rfl ⟨.same _,.same _,trivial⟩ rfl (VOk.g (VOk.arith (op:=.lss) (k:=.i64) (a:=y0_1_2) (b:=(y0_0_1.length:Int)) rfl rfl rfl rfl)) ?_
   refine TxtE.cons rfl ⟨.same _,trivial⟩ rfl (VOk.g (VOk.mv (d:=(.v (.bool (decide (y0_1_2 < (y0_0_1.length:Int)))))) rfl rfl)) ?_
   refine TxtE.consI rfl ⟨.same _,.same _,trivial⟩ rfl rfl (.one rfl) (fun hw8 => (VOk.g (VOk.mv (d:=(.bref 0 0)) rfl rfl))) ?_
   refine TxtE.consI rfl ⟨.same _,.same _,trivial⟩ rfl rfl (.one rfl) (fun hw8 => (GOk.fr (fr':=[(21,(.bref 0 0))]) ⟨DLe.of_eq (cT hw8).symm,trivial⟩ (VOk.g (VOk.nilCheckB rfl rfl rfl)))) ?_
   refine TxtE.consI rfl ⟨.same _,.same _,trivial⟩ rfl rfl (.one rfl) (fun hw8 => (GOk.fr (fr':=[(22,(.bref 0 0))]) ⟨DLe.of_eq (cT hw8).symm,trivial⟩ (VOk.g (VOk.to (VOk.fieldB rfl Tryz.underlying94 rfl sz9 rfl rfl) rfl)))) ?_
   refine TxtE.consI rfl ⟨.same _,.same _,trivial⟩ rfl rfl (.one rfl) (fun hw8 => (GOk.fr (fr':=[(23,(.bref 0 0))]) ⟨DLe.of_eq (cT hw8).symm,trivial⟩ (VOk.g (VOk.loadB (d:=(S y0_0_1)) rfl Tryz.underlying9 rfl rfl rfl rfl)))) ?_
   refine TxtE.consI rfl ⟨.same _,.same _,trivial⟩ rfl rfl (.one rfl) (fun hw8 => (VOk.g (VOk.mv (d:=(.bref 0 0)) rfl rfl))) ?_
   refine TxtE.consI rfl ⟨.same _,.same _,trivial⟩ rfl rfl (.one rfl) (fun hw8 => (GOk.fr (fr':=[(25,(.bref 0 0))]) ⟨DLe.of_eq (cT hw8).symm,trivial⟩ (VOk.g (VOk.nilCheckB rfl rfl rfl)))) ?_
   refine TxtE.consI rfl ⟨.same _,.same _,trivial⟩ rfl rfl (.one rfl) (fun hw8 => (GOk.fr (fr':=[(26,(.bref 0 0))]) ⟨DLe.of_eq (cT hw8).symm,trivial⟩ (VOk.g (VOk.to (VOk.fieldB rfl Tryz.underlying94 rfl sz3 rfl rfl) rfl)))) ?_
   refine TxtE.consI rfl ⟨.same _,.same _,trivial⟩ rfl rfl (.one rfl) (fun hw8 => (GOk.fr (fr':=[(27,(.bref 0 1))]) ⟨DLe.of_eq (cT hw8).symm,trivial⟩ (VOk.g (VOk.loadB (d:=(.v (.int .i64 y0_1_2))) rfl Tryz.underlying3 rfl rfl rfl rfl)))) ?_
   refine TxtE.consI rfl ⟨.same _,.same _,.same _,trivial⟩ rfl rfl (.one rfl) (fun hw8 => (GOk.fr (fr':=[(24,(S y0_0_1)),(28,(.v (.int .i64 y0_1_2)))]) ⟨DLe.of_eq (cT hw8).symm,DLe.of_eq (cT hw8).symm,trivial⟩ (VOk.g (VOk.indexStr (s:=y0_0_1) (i:=y0_1_2) rfl Tryz.underlying9 rfl rfl (c9 hw8))))) ?_
   refine TxtE.consI rfl ⟨.same _,.same _,trivial⟩ rfl rfl (.one rfl) (fun hw8 => (GOk.fr (fr':=[(29,(.v (.int .u8 (bt y0_0_1 y0_1_2))))]) ⟨DLe.of_eq (cT hw8).symm,trivial⟩ (GOk.call rfl rfl cl89 rfl (lex_part.ok (ifT h11 hw8)) rfl))) ?_
   refine TxtE.cons rfl ⟨.same _,.same _,trivial⟩ rfl (VOk.g (VOk.to (VOk.pickI (b:=(decide (y0_1_2 < (y0_0_1.length:Int)))) (p:=t10) (q:=false) rfl rfl (fun hp12 => (cT (t_beq hp12))) (fun hp12 => rfl)) (pickAnd (decide (y0_1_2 < (y0_0_1.length:Int))) t10))) ?_
   exact .done (.rf rfl rfl)
  refine Ok.test (b:=((decide (y0_1_2 < (y0_0_1.length:Int))) && t10)) rfl (fun hb16 => ?_) (fun hb16 => ?_)
  ·replace H:=ifT H hb16
   refine Ok.skip ?_
   refine Ok.block ?_
   refine .rg [(0,(.bref 0 0)),(5,(.v (.int .i64 a0.At_)))] [(0,(.box (.at b) [(S y0_0_1),(.v (.int .i64 (IntKind.i64.wrap (y0_1_2 + 1)))),(.sref 1002)])),(1002,(.rows true 78 5 (y1002_3.map e_api_Token)))] ?_
   exact⟨m7,Nat.lt_succ_self m7,y0_0_1,(IntKind.i64.wrap (y0_1_2 + 1)),y1002_3,rfl,H⟩
  ·replace H:=ifF H hb16
   refine Ok.exit ?_
   refine Ok.seq ?_
   refine Ok.seq ?_
   refine .dA [(0,(.bref 0 0)),(5,(.v (.int .i64 a0.At_))),(48,(.v (.bool (y0_1_2 == (y0_0_1.length:Int)))))] [(0,(.box (.at b) [(S y0_0_1),(.v (.int .i64 y0_1_2)),(.sref 1002)])),(1002,(.rows true 78 5 (y1002_3.map e_api_Token)))] [[],[0],[1],[2],[],[4],[5],[6],[7],[3,8]] mixed ?_ ?_
   ·refine .tn 8 ?_
    refine .tc (VOk.g (VOk.lenStr (s:=y0_0_1) rfl Tryz.underlying9 rfl)) ?_
    refine .tn 1 ?_
    exact .dn
   refine Ok.test (b:=(y0_1_2 == (y0_0_1.length:Int))) rfl (fun hb15 => ?_) (fun hb15 => ?_)
   ·replace H:=ifT H hb15
    cases H
   ·replace H:=ifF H hb15
    refine Ok.skip ?_
    refine Ok.seq ?_
    refine Ok.seq ?_
    refine .rg [(0,(.bref 0 0)),(5,(.v (.int .i64 a0.At_))),(57,(.v (.bool (y0_1_2 == a0.At_))))] [(0,(.box (.at b) [(S y0_0_1),(.v (.int .i64 y0_1_2)),(.sref 1002)])),(1002,(.rows true 78 5 (y1002_3.map e_api_Token)))] ?_
    refine Ok.test (b:=(y0_1_2 == a0.At_)) rfl (fun hb14 => ?_) (fun hb14 => ?_)
    ·replace H:=ifT H hb14
     cases H
    ·replace H:=ifF H hb14
     refine Ok.skip ?_
     refine Ok.seq ?_
     obtain⟨c13,H⟩:=assertE H
     refine .dA [(4,(S (sl y0_0_1 a0.At_ y0_1_2)))] [(0,(.box (.at b) [(S y0_0_1),(.v (.int .i64 y0_1_2)),(.sref 1002)])),(1002,(.rows true 78 5 (y1002_3.map e_api_Token)))] [[],[0],[1],[2],[],[],[5],[6],[7],[3,4,8],[9]] mixed ?_ ?_
     ·refine .tn 9 ?_
      refine .tc (VOk.g (VOk.sliceStr (s:=y0_0_1) (l:=a0.At_) (h:=y0_1_2) rfl Tryz.underlying9 rfl rfl rfl c13)) ?_
      refine .tn 1 ?_
      exact .dn
     refine Ok.ret ?_
     obtain rfl:=Option.some.inj H
     exact⟨.inl rfl,⟨_,(.cons (.tmp rfl) .nil),rfl⟩,⟨.same _,.same _,.none _,trivial⟩⟩
def lex_lexer_blanks.l0 (k:Nat) (a0:T_lex_lexer):Nat→Str→Int→List T_api_Token→Option (Int × T_lex_lexer)
 | 0,_,_,_ => none
 | m7 + 1,y0_0_1,y0_1_2,y1002_3 => (if (((decide (y0_1_2 < (y0_0_1.length:Int))) == true)=true→(0:Int) ≤ y0_1_2 ∧ y0_1_2 < (y0_0_1.length:Int)) then (((if ((decide (y0_1_2 < (y0_0_1.length:Int))) == true)=true then utf_Blank (bt y0_0_1 y0_1_2) else some default)).bind fun (t10:Bool) => (if ((decide (y0_1_2 < (y0_0_1.length:Int))) && t10)=true then lex_lexer_blanks.l0 k a0 m7 y0_0_1 (IntKind.i64.wrap (y0_1_2 + 1)) y1002_3 else some ((IntKind.i64.wrap (y0_1_2 - a0.At_)),(T_lex_lexer.mk y0_0_1 y0_1_2 y1002_3)))) else none)
def lex_lexer_blanks (k:Nat) (a0:T_lex_lexer):Option (Int × T_lex_lexer):=lex_lexer_blanks.l0 k a0 k a0.S_ a0.At_ a0.L_
theorem lex_lexer_blanks.ok {k:Nat} {a0:T_lex_lexer} {r:Int × T_lex_lexer} (H:lex_lexer_blanks k a0=some r) (b:Nat):Vx.Fn Tryz.prog 62 [(.bref 0 0)] [(0,(lxB b a0)),(1002,(.rows true 78 5 (a0.L_.map e_api_Token)))] (.v (.int .i64 r.1)) [(0,(lxB b r.2)),(1002,(.rows true 78 5 (r.2.L_.map e_api_Token))),(999,.none)]:=by
 unfold lex_lexer_blanks at H
 refine Vx.Fn.of_okR Tryz.func62 rfl (Nat.le_of_ble_eq_true rfl) ?_
 refine Ok.seq ?_
 refine .rg [(0,(.bref 0 0))] [(0,(lxB b a0)),(1002,(.rows true 78 5 (a0.L_.map e_api_Token)))] ?_
 refine Ok.seq ?_
 refine .rg [(0,(.bref 0 0)),(3,(.v (.int .i64 a0.At_)))] [(0,(lxB b a0)),(1002,(.rows true 78 5 (a0.L_.map e_api_Token)))] ?_
 refine Ok.seq ?_
 refine Ok.block ?_
 refine Ok.loop (fun m7 σ => ∃ (y0_0_1:Str) (y0_1_2:Int) (y1002_3:List T_api_Token),σ=⟨[(0,(.bref 0 0)),(3,(.v (.int .i64 a0.At_)))],[(0,(.box (.at b) [(S y0_0_1),(.v (.int .i64 y0_1_2)),(.sref 1002)])),(1002,(.rows true 78 5 (y1002_3.map e_api_Token)))]⟩ ∧ lex_lexer_blanks.l0 k a0 m7 y0_0_1 y0_1_2 y1002_3=some r) k ⟨a0.S_,a0.At_,a0.L_,rfl,H⟩ ?_
 rintro m7 σ ⟨y0_0_1,y0_1_2,y1002_3,rfl,H⟩
 cases m7 with
 | zero => exact absurd H (by simp [lex_lexer_blanks.l0])
 | succ m7 =>
  unfold lex_lexer_blanks.l0 at H
  refine Ok.seq ?_
  refine Ok.seq ?_
  obtain⟨c9,H⟩:=assertE H
  obtain⟨t10,h11,H⟩:=bindE H
  refine Ok.drawE (σ':=⟨[(0,(.bref 0 0)),(3,(.v (.int .i64 a0.At_))),(29,(.v (.bool ((decide (y0_1_2 < (y0_0_1.length:Int))) && t10))))],[(0,(.box (.at b) [(S y0_0_1),(.v (.int .i64 y0_1_2)),(.sref 1002)])),(1002,(.rows true 78 5 (y1002_3.map e_api_Token)))]⟩) [⟨true,[(0,(.bref 0 0))],(.bref 0 0)⟩,⟨true,[(8,(.bref 0 0))],(.bref 0 0)⟩,⟨true,[(9,(.bref 0 0))],(.bref 0 1)⟩,⟨true,[(10,(.bref 0 1))],(.v (.int .i64 y0_1_2))⟩,⟨true,[(0,(.bref 0 0))],(.bref 0 0)⟩,⟨true,[(12,(.bref 0 0))],(.bref 0 0)⟩,⟨true,[(13,(.bref 0 0))],(.bref 0 0)⟩,⟨true,[(14,(.bref 0 0))],(S y0_0_1)⟩,⟨true,[(15,(S y0_0_1))],(.v (.int .i64 (y0_0_1.length:Int)))⟩,⟨true,[(11,(.v (.int .i64 y0_1_2))),(16,(.v (.int .i64 (y0_0_1.length:Int))))],(.v (.bool (decide (y0_1_2 < (y0_0_1.length:Int)))))⟩,⟨true,[(17,(.v (.bool (decide (y0_1_2 < (y0_0_1.length:Int))))))],(.v (.bool (decide (y0_1_2 < (y0_0_1.length:Int)))))⟩,It.I ((decide (y0_1_2 < (y0_0_1.length:Int))) == true) [(0,(.bref 0 0)),(18,(.v (.bool (decide (y0_1_2 < (y0_0_1.length:Int))))))] (.bref 0 0),It.I ((decide (y0_1_2 < (y0_0_1.length:Int))) == true) [(19,(bif ((decide (y0_1_2 < (y0_0_1.length:Int))) == true) then (.bref 0 0) else .v undef)),(18,(.v (.bool (decide (y0_1_2 < (y0_0_1.length:Int))))))] (.bref 0 0),It.I ((decide (y0_1_2 < (y0_0_1.length:Int))) == true) [(20,(bif ((decide (y0_1_2 < (y0_0_1.length:Int))) == true) then (.bref 0 0) else .v undef)),(18,(.v (.bool (decide (y0_1_2 < (y0_0_1.length:Int))))))] (.bref 0 0),It.I ((decide (y0_1_2 < (y0_0_1.length:Int))) == true) [(21,(bif ((decide (y0_1_2 < (y0_0_1.length:Int))) == true) then (.bref 0 0) else .v undef)),(18,(.v (.bool (decide (y0_1_2 < (y0_0_1.length:Int))))))] (S y0_0_1),It.I ((decide (y0_1_2 < (y0_0_1.length:Int))) == true) [(0,(.bref 0 0)),(18,(.v (.bool (decide (y0_1_2 < (y0_0_1.length:Int))))))] (.bref 0 0),It.I ((decide (y0_1_2 < (y0_0_1.length:Int))) == true) [(23,(bif ((decide (y0_1_2 < (y0_0_1.length:Int))) == true) then (.bref 0 0) else .v undef)),(18,(.v (.bool (decide (y0_1_2 < (y0_0_1.length:Int))))))] (.bref 0 0),It.I ((decide (y0_1_2 < (y0_0_1.length:Int))) == true) [(24,(bif ((decide (y0_1_2 < (y0_0_1.length:Int))) == true) then (.bref 0 0) else .v undef)),(18,(.v (.bool (decide (y0_1_2 < (y0_0_1.length:Int))))))] (.bref 0 1),It.I ((decide (y0_1_2 < (y0_0_1.length:Int))) == true) [(25,(bif ((decide (y0_1_2 < (y0_0_1.length:Int))) == true) then (.bref 0 1) else .v undef)),(18,(.v (.bool (decide (y0_1_2 < (y0_0_1.length:Int))))))] (.v (.int .i64 y0_1_2)),It.I ((decide (y0_1_2 < (y0_0_1.length:Int))) == true) [(22,(bif ((decide (y0_1_2 < (y0_0_1.length:Int))) == true) then (S y0_0_1) else .v undef)),(26,(bif ((decide (y0_1_2 < (y0_0_1.length:Int))) == true) then (.v (.int .i64 y0_1_2)) else .v undef)),(18,(.v (.bool (decide (y0_1_2 < (y0_0_1.length:Int))))))] (.v (.int .u8 (bt y0_0_1 y0_1_2))),It.I ((decide (y0_1_2 < (y0_0_1.length:Int))) == true) [(27,(bif ((decide (y0_1_2 < (y0_0_1.length:Int))) == true) then (.v (.int .u8 (bt y0_0_1 y0_1_2))) else .v undef)),(18,(.v (.bool (decide (y0_1_2 < (y0_0_1.length:Int))))))] (.v (.bool t10)),⟨true,[(18,(.v (.bool (decide (y0_1_2 < (y0_0_1.length:Int)))))),(28,(bif ((decide (y0_1_2 < (y0_0_1.length:Int))) == true) then (.v (.bool t10)) else .v undef))],(.v (.bool ((decide (y0_1_2 < (y0_0_1.length:Int))) && t10)))⟩] [[],[0],[1],[2],[],[4],[5],[6],[7],[3,8],[9],[10],[10,11],[10,12],[10,13],[10],[10,15],[10,16],[10,17],[10,14,18],[10,19],[10,20]] mixed (by kernel_rfl) ?_ ?_
  ·refine TxtE.cons rfl ⟨.same _,trivial⟩ rfl (VOk.g (VOk.mv (d:=(.bref 0 0)) rfl rfl)) ?_
   refine TxtE.cons rfl ⟨.same _,trivial⟩ rfl (VOk.g (VOk.nilCheckB rfl rfl rfl)) ?_
   refine TxtE.cons rfl ⟨.same _,trivial⟩ rfl (VOk.g (VOk.to (VOk.fieldB rfl Tryz.underlying94 rfl sz3 rfl rfl) rfl)) ?_
   refine TxtE.cons rfl ⟨.same _,trivial⟩ rfl (VOk.g (VOk.loadB (d:=(.v (.int .i64 y0_1_2))) rfl Tryz.underlying3 rfl rfl rfl rfl)) ?_
   refine TxtE.cons rfl ⟨.same _,trivial⟩ rfl (VOk.g (VOk.mv (d:=(.bref 0 0)) rfl rfl)) ?_
   refine TxtE.cons rfl ⟨.same _,trivial⟩ rfl (VOk.g (VOk.nilCheckB rfl rfl rfl)) ?_
   refine TxtE.cons rfl ⟨.same _,trivial⟩ rfl (VOk.g (VOk.to (VOk.fieldB rfl Tryz.underlying94 rfl sz9 rfl rfl) rfl)) ?_
   refine TxtE.cons rfl ⟨.same _,trivial⟩ rfl (VOk.g (VOk.loadB (d:=(S y0_0_1)) rfl Tryz.underlying9 rfl rfl rfl rfl)) ?_
   refine TxtE.cons rfl ⟨.same _,trivial⟩ rfl (VOk.g (VOk.lenStr (s:=y0_0_1) rfl Tryz.underlying9 rfl)) ?_
   refine TxtE.cons rfl ⟨.same _,.same _,trivial⟩ rfl (VOk.g (VOk.arith (op:=.lss) (k:=.i64) (a:=y0_1_2) (b:=(y0_0_1.length:Int)) rfl rfl rfl rfl)) ?_
   refine TxtE.cons rfl ⟨.same _,trivial⟩ rfl (VOk.g (VOk.mv (d:=(.v (.bool (decide (y0_1_2 < (y0_0_1.length:Int)))))) rfl rfl)) ?_
   refine TxtE.consI rfl ⟨.same _,.same _,trivial⟩ rfl rfl (.one rfl) (fun hw8 => (VOk.g (VOk.mv (d:=(.bref 0 0)) rfl rfl))) ?_
   refine TxtE.consI rfl ⟨.same _,.same _,trivial⟩ rfl rfl (.one rfl) (fun hw8 => (GOk.fr (fr':=[(19,(.bref 0 0))]) ⟨DLe.of_eq (cT hw8).symm,trivial⟩ (VOk.g (VOk.nilCheckB rfl rfl rfl)))) ?_
   refine TxtE.consI rfl ⟨.same _,.same _,trivial⟩ rfl rfl (.one rfl) (fun hw8 => (GOk.fr (fr':=[(20,(.bref 0 0))]) ⟨DLe.of_eq (cT hw8).symm,trivial⟩ (VOk.g (VOk.to (VOk.fieldB rfl Tryz.underlying94 rfl sz9 rfl rfl) rfl)))) ?_
   refine TxtE.consI rfl ⟨.same _,.same _,trivial⟩ rfl rfl (.one rfl) (fun hw8 => (GOk.fr (fr':=[(21,(.bref 0 0))]) ⟨DLe.of_eq (cT hw8).symm,trivial⟩ (VOk.g (VOk.loadB (d:=(S y0_0_1)) rfl Tryz.underlying9 rfl rfl rfl rfl)))) ?_
   refine TxtE.consI rfl ⟨.same _,.same _,trivial⟩ rfl rfl (.one rfl) (fun hw8 => (VOk.g (VOk.mv (d:=(.bref 0 0)) rfl rfl))) ?_
   refine TxtE.consI rfl ⟨.same _,.same _,trivial⟩ rfl rfl (.one rfl) (fun hw8 => (GOk.fr (fr':=[(23,(.bref 0 0))]) ⟨DLe.of_eq (cT hw8).symm,trivial⟩ (VOk.g (VOk.nilCheckB rfl rfl rfl)))) ?_
   refine TxtE.consI rfl ⟨.same _,.same _,trivial⟩ rfl rfl (.one rfl) (fun hw8 => (GOk.fr (fr':=[(24,(.bref 0 0))]) ⟨DLe.of_eq (cT hw8).symm,trivial⟩ (VOk.g (VOk.to (VOk.fieldB rfl Tryz.underlying94 rfl sz3 rfl rfl) rfl)))) ?_
   refine TxtE.consI rfl ⟨.same _,.same _,trivial⟩ rfl rfl (.one rfl) (fun hw8 => (GOk.fr (fr':=[(25,(.bref 0 1))]) ⟨DLe.of_eq (cT hw8).symm,trivial⟩ (VOk.g (VOk.loadB (d:=(.v (.int .i64 y0_1_2))) rfl Tryz.underlying3 rfl rfl rfl rfl)))) ?_
   refine TxtE.consI rfl ⟨.same _,.same _,.same _,trivial⟩ rfl rfl (.one rfl) (fun hw8 => (GOk.fr (fr':=[(22,(S y0_0_1)),(26,(.v (.int .i64 y0_1_2)))]) ⟨DLe.of_eq (cT hw8).symm,DLe.of_eq (cT hw8).symm,trivial⟩ (VOk.g (VOk.indexStr (s:=y0_0_1) (i:=y0_1_2) rfl Tryz.underlying9 rfl rfl (c9 hw8))))) ?_
   refine TxtE.consI rfl ⟨.same _,.same _,trivial⟩ rfl rfl (.one rfl) (fun hw8 => (GOk.fr (fr':=[(27,(.v (.int .u8 (bt y0_0_1 y0_1_2))))]) ⟨DLe.of_eq (cT hw8).symm,trivial⟩ (GOk.call rfl rfl cl49 rfl (utf_Blank.ok (ifT h11 hw8)) rfl))) ?_
   refine TxtE.cons rfl ⟨.same _,.same _,trivial⟩ rfl (VOk.g (VOk.to (VOk.pickI (b:=(decide (y0_1_2 < (y0_0_1.length:Int)))) (p:=t10) (q:=false) rfl rfl (fun hp12 => (cT (t_beq hp12))) (fun hp12 => rfl)) (pickAnd (decide (y0_1_2 < (y0_0_1.length:Int))) t10))) ?_
   exact .done (.rf rfl rfl)
  refine Ok.test (b:=((decide (y0_1_2 < (y0_0_1.length:Int))) && t10)) rfl (fun hb13 => ?_) (fun hb13 => ?_)
  ·replace H:=ifT H hb13
   refine Ok.skip ?_
   refine Ok.block ?_
   refine .rg [(0,(.bref 0 0)),(3,(.v (.int .i64 a0.At_)))] [(0,(.box (.at b) [(S y0_0_1),(.v (.int .i64 (IntKind.i64.wrap (y0_1_2 + 1)))),(.sref 1002)])),(1002,(.rows true 78 5 (y1002_3.map e_api_Token)))] ?_
   exact⟨m7,Nat.lt_succ_self m7,y0_0_1,(IntKind.i64.wrap (y0_1_2 + 1)),y1002_3,rfl,H⟩
  ·replace H:=ifF H hb13
   refine Ok.exit ?_
   refine Ok.seq ?_
   refine .rg [(2,(.v (.int .i64 (IntKind.i64.wrap (y0_1_2 - a0.At_)))))] [(0,(.box (.at b) [(S y0_0_1),(.v (.int .i64 y0_1_2)),(.sref 1002)])),(1002,(.rows true 78 5 (y1002_3.map e_api_Token)))] ?_
   refine Ok.ret ?_
   obtain rfl:=Option.some.inj H
   exact⟨.inl rfl,⟨_,(.cons (.tmp rfl) .nil),rfl⟩,⟨.same _,.same _,.none _,trivial⟩⟩
def lex_lexer_closing (k:Nat) (a0:T_lex_lexer):Option T_lex_lexer:=((lex_lexer_word k (T_lex_lexer.mk a0.S_ (IntKind.i64.wrap (a0.At_ + 2)) a0.L_) a0.At_).bind fun (t1:Str × T_lex_lexer) => ((lex_lexer_blanks k t1.2).bind fun (t3:Int × T_lex_lexer) => (if (t3.2.At_ == (t3.2.S_.length:Int))=true then none else ((lex_lexer_next t3.2 ([62]:Str)).bind fun (t5:Bool) => (if (!t5)=true then none else (if (t3.2.L_.length + ([(T_api_Token.mk 2 a0.At_ t1.1 ([]:List T_api_Raw) ([]:Str))]:List T_api_Token).length) * 72 ≤ 140737488355328 then some (T_lex_lexer.mk t3.2.S_ (IntKind.i64.wrap (t3.2.At_ + 1)) (t3.2.L_ ++ ([(T_api_Token.mk 2 a0.At_ t1.1 ([]:List T_api_Raw) ([]:Str))]:List T_api_Token))) else none))))))
theorem lex_lexer_closing.ok {k:Nat} {a0:T_lex_lexer} {r:T_lex_lexer} (H:lex_lexer_closing k a0=some r) (b:Nat):Vx.Fn Tryz.prog 68 [(.bref 0 0)] [(0,(lxB b a0)),(1002,(.rows true 78 5 (a0.L_.map e_api_Token)))] (.tup []) [(0,(lxB b r)),(1002,(.rows true 78 5 (r.L_.map e_api_Token))),(999,.none)]:=by
 unfold lex_lexer_closing at H
 refine Vx.Fn.of_okR Tryz.func68 rfl (Nat.le_of_ble_eq_true rfl) ?_
 refine Ok.seq ?_
 refine .rg [(0,(.bref 0 0)),(2,(.v (.int .i64 a0.At_)))] [(0,(lxB b a0)),(1002,(.rows true 78 5 (a0.L_.map e_api_Token)))] ?_
 refine Ok.seq ?_
 refine .rg [(0,(.bref 0 0)),(2,(.v (.int .i64 a0.At_)))] [(0,(.box (.at b) [(S a0.S_),(.v (.int .i64 (IntKind.i64.wrap (a0.At_ + 2)))),(.sref 1002)])),(1002,(.rows true 78 5 (a0.L_.map e_api_Token)))] ?_
 refine Ok.seq ?_
 obtain⟨t1,h2,H⟩:=bindE H
 refine Ok.region (σ':=⟨[(0,(.bref 0 0)),(2,(.v (.int .i64 a0.At_))),(3,(S t1.1))],[(0,(lxB b t1.2)),(1002,(.rows true 78 5 (t1.2.L_.map e_api_Token)))]⟩) ?_ ?_
 ·refine .rn 2 ?_
  refine OpsOk.cons rfl (OpOk.callT (e:=(.at b)) 0 1002 917 rfl rfl cl88 (fun b => ((lex_lexer_word.ok h2) b)) rfl rfl rfl rfl rfl rfl rfl rfl) ?_
  refine .rn 1 ?_
  exact .dn
 refine Ok.seq ?_
 obtain⟨t3,h4,H⟩:=bindE H
 refine Ok.region (σ':=⟨[(0,(.bref 0 0)),(2,(.v (.int .i64 a0.At_))),(3,(S t1.1))],[(0,(lxB b t3.2)),(1002,(.rows true 78 5 (t3.2.L_.map e_api_Token)))]⟩) ?_ ?_
 ·refine .rn 1 ?_
  refine OpsOk.cons rfl (OpOk.callT (e:=(.at b)) 0 1002 919 rfl rfl cl62 (fun b => ((lex_lexer_blanks.ok h4) b)) rfl rfl rfl rfl rfl rfl rfl rfl) ?_
  exact .dn
 refine Ok.seq ?_
 refine Ok.seq ?_
 refine .dA [(0,(.bref 0 0)),(2,(.v (.int .i64 a0.At_))),(3,(S t1.1)),(29,(.v (.bool (t3.2.At_ == (t3.2.S_.length:Int)))))] [(0,(lxB b t3.2)),(1002,(.rows true 78 5 (t3.2.L_.map e_api_Token)))] [[],[0],[1],[2],[],[4],[5],[6],[7],[3,8]] mixed ?_ ?_
 ·refine .tn 8 ?_
  refine .tc (VOk.g (VOk.lenStr (s:=t3.2.S_) rfl Tryz.underlying9 rfl)) ?_
  refine .tn 1 ?_
  exact .dn
 refine Ok.test (b:=(t3.2.At_ == (t3.2.S_.length:Int))) rfl (fun hb9 => ?_) (fun hb9 => ?_)
 ·replace H:=ifT H hb9
  cases H
 ·replace H:=ifF H hb9
  refine Ok.skip ?_
  refine Ok.seq ?_
  refine Ok.seq ?_
  obtain⟨t5,h6,H⟩:=bindE H
  refine Ok.region (σ':=⟨[(0,(.bref 0 0)),(2,(.v (.int .i64 a0.At_))),(3,(S t1.1)),(35,(.v (.bool (!t5))))],[(0,(lxB b t3.2)),(1002,(.rows true 78 5 (t3.2.L_.map e_api_Token)))]⟩) ?_ ?_
  ·refine .rn 1 ?_
   refine .cg (GOk.callV2 rfl rfl cl48 rfl (lex_lexer_next.ok h6) rfl) rfl rfl ?_
   refine .rn 1 ?_
   exact .dn
  refine Ok.test (b:=(!t5)) rfl (fun hb8 => ?_) (fun hb8 => ?_)
  ·replace H:=ifT H hb8
   cases H
  ·replace H:=ifF H hb8
   refine Ok.skip ?_
   refine Ok.seq ?_
   refine .rg [(0,(.bref 0 0)),(2,(.v (.int .i64 a0.At_))),(3,(S t1.1))] [(0,(.box (.at b) [(S t3.2.S_),(.v (.int .i64 (IntKind.i64.wrap (t3.2.At_ + 1)))),(.sref 1002)])),(1002,(.rows true 78 5 (t3.2.L_.map e_api_Token)))] ?_
   obtain⟨c7,H⟩:=assertE H
   refine Ok.region (σ':=⟨[],[(0,(.box (.at b) [(S t3.2.S_),(.v (.int .i64 (IntKind.i64.wrap (t3.2.At_ + 1)))),(.sref 1002)])),(1002,(.rows true 78 5 ((t3.2.L_ ++ ([(T_api_Token.mk 2 a0.At_ t1.1 ([]:List T_api_Raw) ([]:Str))]:List T_api_Token)).map e_api_Token)))]⟩) ?_ ?_
   ·refine .rn 7 ?_
    refine .cv (VOk.to (d':=(.agg (e_api_Token (T_api_Token.mk 2 a0.At_ t1.1 ([]:List T_api_Raw) ([]:Str))))) (.build [none,none,none,some 2,none] [(0,1),(1,1),(2,1),(3,1),(4,1)] rfl Tryz.underlying78 (fa78 Tryz.underlying78) zo78 rfl rfl) rfl) rfl rfl ?_
    refine .cg (GOk.to (d':=(L 5 e_api_Token ([(T_api_Token.mk 2 a0.At_ t1.1 ([]:List T_api_Raw) ([]:Str))]:List T_api_Token))) (GOk.lit rfl Tryz.underlying69 sz78 zs78 rfl rfl rfl rfl) rfl) rfl rfl ?_
    refine OpsOk.cons rfl (OpOk.appendL (e:=e_api_Token) (xs:=t3.2.L_) (ys:=([(T_api_Token.mk 2 a0.At_ t1.1 ([]:List T_api_Raw) ([]:Str))]:List T_api_Token)) rfl Tryz.underlying69 elt78 rfl rfl rfl c7 rfl) ?_
    refine .rn 3 ?_
    exact .dn
   obtain rfl:=Option.some.inj H
   exact⟨.inr rfl,⟨_,.nil,rfl⟩,⟨.same _,.same _,.none _,trivial⟩⟩
def strings_Count.l0 (k:Nat) (a1:Str):Nat→Str→Int→Option Int
 | 0,_,_ => none
 | m6 + 1,x0_2,x5_3 => (if x0_2.length < 4294967281 then (if ((Lib.index x0_2 a1) == (-1))=true then some x5_3 else none) else none)
def strings_Count (k:Nat) (a0:Str) (a1:Str):Option Int:=(if ((a1.length:Int) == 0)=true then none else (if ((a1.length:Int) == 1)=true then (if (0:Int) ≤ 0 ∧ 0 < (a1.length:Int) then some (Lib.countByte a0 (Int.toNat (bt a1 0)).toUInt8) else none) else strings_Count.l0 k a1 k a0 0))
theorem strings_Count.ok {k:Nat} {a0:Str} {a1:Str} {r:Int} (H:strings_Count k a0 a1=some r):Vx.Fn Tryz.prog 132 [(S a0),(S a1)] [] (.v (.int .i64 r)) []:=by
 unfold strings_Count at H
 refine Vx.Fn.of_okR Tryz.func132 rfl (Nat.le_of_ble_eq_true rfl) ?_
 refine Ok.seq ?_
 refine .rg [(0,(S a0)),(1,(S a1))] [] ?_
 refine Ok.seq ?_
 refine Ok.seq ?_
 refine .rg [(0,(S a0)),(1,(S a1)),(9,(.v (.bool ((a1.length:Int) == 0))))] [] ?_
 refine Ok.test (b:=((a1.length:Int) == 0)) rfl (fun hb10 => ?_) (fun hb10 => ?_)
 ·replace H:=ifT H hb10
  cases H
 ·replace H:=ifF H hb10
  refine Ok.skip ?_
  refine Ok.seq ?_
  refine Ok.seq ?_
  refine .rg [(0,(S a0)),(1,(S a1)),(15,(.v (.bool ((a1.length:Int) == 1))))] [] ?_
  refine Ok.test (b:=((a1.length:Int) == 1)) rfl (fun hb9 => ?_) (fun hb9 => ?_)
  ·replace H:=ifT H hb9
   refine Ok.seq ?_
   obtain⟨c1,H⟩:=assertE H
   refine Ok.region (σ':=⟨[(4,(.v (.int .i64 (Lib.countByte a0 (Int.toNat (bt a1 0)).toUInt8))))],[]⟩) ?_ ?_
   ·refine .rn 2 ?_
    refine .cv (VOk.indexStr (s:=a1) (i:=0) rfl Tryz.underlying9 rfl rfl c1) rfl rfl ?_
    refine .cv (VOk.cntByte (s:=a0) (c:=(bt a1 0)) rfl rfl Tryz.func139 rfl rfl (by kernel_rfl) xt139 rfl rfl) rfl rfl ?_
    refine .rn 1 ?_
    exact .dn
   refine Ok.ret ?_
   obtain rfl:=Option.some.inj H
   exact⟨.inl rfl,⟨_,(.cons (.tmp rfl) .nil),rfl⟩,trivial⟩
  ·replace H:=ifF H hb9
   refine Ok.skip ?_
   refine Ok.seq ?_
   refine .rg [(0,(S a0)),(1,(S a1)),(5,(.v (.int .i64 0)))] [] ?_
   refine Ok.block ?_
   refine Ok.loop (fun m6 σ => ∃ (x0_2:Str) (x5_3:Int),σ=⟨[(0,(S x0_2)),(1,(S a1)),(5,(.v (.int .i64 x5_3)))],[]⟩ ∧ strings_Count.l0 k a1 m6 x0_2 x5_3=some r) k ⟨a0,0,rfl,H⟩ ?_
   rintro m6 σ ⟨x0_2,x5_3,rfl,H⟩
   cases m6 with
   | zero => exact absurd H (by simp [strings_Count.l0])
   | succ m6 =>
    unfold strings_Count.l0 at H
    refine Ok.block ?_
    refine Ok.seq ?_
    obtain⟨c7,H⟩:=assertE H
    refine Ok.region (σ':=⟨[(5,(.v (.int .i64 x5_3))),(6,(.v (.int .i64 (Lib.index x0_2 a1))))],[]⟩) ?_ ?_
    ·refine .rn 2 ?_
     refine .cg (GOk.extB (us:=[.string (ba x0_2),.string (ba a1)]) (d:=(.v (.int .i64 (Lib.index x0_2 a1)))) rfl rfl cl93 rfl (fun _ _ => .v _) (fun w hG => shIndex c7 w hG)) rfl rfl ?_
     refine .rn 1 ?_
     exact .dn
    refine Ok.seq ?_
    refine Ok.seq ?_
    refine .rg [(5,(.v (.int .i64 x5_3))),(24,(.v (.bool ((Lib.index x0_2 a1) == (-1)))))] [] ?_
    refine Ok.test (b:=((Lib.index x0_2 a1) == (-1))) rfl (fun hb8 => ?_) (fun hb8 => ?_)
    ·replace H:=ifT H hb8
     refine Ok.seq ?_
     refine .rg [(4,(.v (.int .i64 x5_3)))] [] ?_
     refine Ok.ret ?_
     obtain rfl:=Option.some.inj H
     exact⟨.inl rfl,⟨_,(.cons (.tmp rfl) .nil),rfl⟩,trivial⟩
    ·replace H:=ifF H hb8
     cases H
def strings_Replace (k:Nat) (a0:Str) (a1:Str) (a2:Str) (a3:Int):Option Str:=(if ((a1 == a2) || (a3 == 0))=true then none else ((strings_Count k a0 a1).bind fun (t3:Int) => (if (t3 == 0)=true then some a0 else none)))
theorem strings_Replace.ok {k:Nat} {a0:Str} {a1:Str} {a2:Str} {a3:Int} {r:Str} (H:strings_Replace k a0 a1 a2 a3=some r):Vx.Fn Tryz.prog 119 [(S a0),(S a1),(S a2),(.v (.int .i64 a3))] [] (S r) []:=by
 unfold strings_Replace at H
 refine Vx.Fn.of_okR Tryz.func119 rfl (Nat.le_of_ble_eq_true rfl) ?_
 refine Ok.seq ?_
 refine .rg [(0,(S a0)),(1,(S a1)),(2,(S a2)),(3,(.v (.int .i64 a3)))] [] ?_
 refine Ok.seq ?_
 refine Ok.seq ?_
 refine Ok.region (σ':=⟨[(0,(S a0)),(1,(S a1)),(22,(.v (.bool ((a1 == a2) || (a3 == 0)))))],[]⟩) ?_ ?_
 ·refine .rn 4 ?_
  refine OpsOk.consI rfl rfl rfl (.one rfl) rfl (fun hw1 => (VOk.g (VOk.mv (d:=(.v (.int .i64 a3))) rfl rfl))) ?_
  refine OpsOk.consI rfl rfl rfl (.one rfl) rfl (fun hw1 => (GOk.fr (fr':=[(20,(.v (.int .i64 a3)))]) ⟨DLe.of_eq (cT hw1).symm,trivial⟩ (VOk.g (VOk.arith (op:=.eql) (k:=.i64) (a:=a3) (b:=0) rfl rfl rfl rfl)))) ?_
  refine .cv (VOk.to (VOk.pickI (b:=(a1 == a2)) (p:=true) (q:=(a3 == 0)) rfl rfl (fun hp2 => rfl) (fun hp2 => (cT (f_beq hp2)))) (pickOr (a1 == a2) (a3 == 0))) rfl rfl ?_
  exact .dn
 refine Ok.test (b:=((a1 == a2) || (a3 == 0))) rfl (fun hb6 => ?_) (fun hb6 => ?_)
 ·replace H:=ifT H hb6
  cases H
 ·replace H:=ifF H hb6
  refine Ok.skip ?_
  refine Ok.seq ?_
  refine Ok.seq ?_
  obtain⟨t3,h4,H⟩:=bindE H
  refine Ok.region (σ':=⟨[(0,(S a0)),(9,(.v (.int .i64 t3)))],[]⟩) ?_ ?_
  ·refine .rn 2 ?_
   refine .cg (GOk.call rfl rfl cl132 rfl (strings_Count.ok h4) rfl) rfl rfl ?_
   refine .rn 1 ?_
   exact .dn
  refine Ok.seq ?_
  refine .rg [(0,(S a0)),(28,(.v (.bool (t3 == 0))))] [] ?_
  refine Ok.test (b:=(t3 == 0)) rfl (fun hb5 => ?_) (fun hb5 => ?_)
  ·replace H:=ifT H hb5
   refine Ok.seq ?_
   refine .rg [(8,(S a0))] [] ?_
   refine Ok.ret ?_
   obtain rfl:=Option.some.inj H
   exact⟨.inl rfl,⟨_,(.cons (.tmp rfl) .nil),rfl⟩,trivial⟩
  ·replace H:=ifF H hb5
   cases H
def strings_ReplaceAll (k:Nat) (a0:Str) (a1:Str) (a2:Str):Option Str:=((strings_Replace k a0 a1 a2 (-1)).bind fun (t1:Str) => some t1)
theorem strings_ReplaceAll.ok {k:Nat} {a0:Str} {a1:Str} {a2:Str} {r:Str} (H:strings_ReplaceAll k a0 a1 a2=some r):Vx.Fn Tryz.prog 102 [(S a0),(S a1),(S a2)] [] (S r) []:=by
 unfold strings_ReplaceAll at H
 refine Vx.Fn.of_okR Tryz.func102 rfl (Nat.le_of_ble_eq_true rfl) ?_
 refine Ok.seq ?_
 refine .rg [(0,(S a0)),(1,(S a1)),(2,(S a2))] [] ?_
 refine Ok.seq ?_
 obtain⟨t1,h2,H⟩:=bindE H
 refine Ok.region (σ':=⟨[(6,(S t1))],[]⟩) ?_ ?_
 ·refine .rn 3 ?_
  refine .cg (GOk.call rfl rfl cl119 rfl (strings_Replace.ok h2) rfl) rfl rfl ?_
  refine .rn 1 ?_
  exact .dn
 refine Ok.ret ?_
 obtain rfl:=Option.some.inj H
 exact⟨.inl rfl,⟨_,(.cons (.tmp rfl) .nil),rfl⟩,trivial⟩
def lex_ends (k:Nat) (a0:Str):Option Str:=((strings_ReplaceAll k a0 ([13,10]:Str) ([10]:Str)).bind fun (t1:Str) => ((strings_ReplaceAll k t1 ([13]:Str) ([10]:Str)).bind fun (t3:Str) => some t3))
theorem lex_ends.ok {k:Nat} {a0:Str} {r:Str} (H:lex_ends k a0=some r):Vx.Fn Tryz.prog 87 [(S a0)] [] (S r) []:=by
 unfold lex_ends at H
 refine Vx.Fn.of_okR Tryz.func87 rfl (Nat.le_of_ble_eq_true rfl) ?_
 refine Ok.seq ?_
 refine .rg [(0,(S a0))] [] ?_
 refine Ok.seq ?_
 obtain⟨t1,h2,H⟩:=bindE H
 obtain⟨t3,h4,H⟩:=bindE H
 refine Ok.region (σ':=⟨[(2,(S t3))],[]⟩) ?_ ?_
 ·refine .rn 1 ?_
  refine .cg (GOk.call rfl rfl cl102 rfl (strings_ReplaceAll.ok h2) rfl) rfl rfl ?_
  refine .cg (GOk.call rfl rfl cl102 rfl (strings_ReplaceAll.ok h4) rfl) rfl rfl ?_
  refine .rn 1 ?_
  exact .dn
 refine Ok.ret ?_
 obtain rfl:=Option.some.inj H
 exact⟨.inl rfl,⟨_,(.cons (.tmp rfl) .nil),rfl⟩,trivial⟩
def lex_plain (k:Nat) (a0:Str) (a1:Bool):Option Str:=((lex_ends k a0).bind fun (t1:Str) => (if a1=true then ((strings_ReplaceAll k t1 ([10]:Str) ([32]:Str)).bind fun (t3:Str) => ((strings_ReplaceAll k t3 ([9]:Str) ([32]:Str)).bind fun (t5:Str) => some t5)) else some t1))
theorem lex_plain.ok {k:Nat} {a0:Str} {a1:Bool} {r:Str} (H:lex_plain k a0 a1=some r):Vx.Fn Tryz.prog 105 [(S a0),(.v (.bool a1))] [] (S r) []:=by
 unfold lex_plain at H
 refine Vx.Fn.of_okR Tryz.func105 rfl (Nat.le_of_ble_eq_true rfl) ?_
 refine Ok.seq ?_
 refine .rg [(0,(S a0)),(1,(.v (.bool a1)))] [] ?_
 refine Ok.seq ?_
 obtain⟨t1,h2,H⟩:=bindE H
 refine Ok.region (σ':=⟨[(0,(S t1)),(1,(.v (.bool a1)))],[]⟩) ?_ ?_
 ·refine .rn 1 ?_
  refine .cg (GOk.call rfl rfl cl87 rfl (lex_ends.ok h2) rfl) rfl rfl ?_
  refine .rn 1 ?_
  exact .dn
 refine Ok.seq ?_
 refine Ok.seq ?_
 refine .rg [(0,(S t1)),(7,(.v (.bool a1)))] [] ?_
 refine Ok.test (b:=a1) rfl (fun hb7 => ?_) (fun hb7 => ?_)
 ·replace H:=ifT H hb7
  refine Ok.seq ?_
  obtain⟨t3,h4,H⟩:=bindE H
  obtain⟨t5,h6,H⟩:=bindE H
  refine Ok.region (σ':=⟨[(4,(S t5))],[]⟩) ?_ ?_
  ·refine .rn 1 ?_
   refine .cg (GOk.call rfl rfl cl102 rfl (strings_ReplaceAll.ok h4) rfl) rfl rfl ?_
   refine .cg (GOk.call rfl rfl cl102 rfl (strings_ReplaceAll.ok h6) rfl) rfl rfl ?_
   refine .rn 1 ?_
   exact .dn
  refine Ok.ret ?_
  obtain rfl:=Option.some.inj H
  exact⟨.inl rfl,⟨_,(.cons (.tmp rfl) .nil),rfl⟩,trivial⟩
 ·replace H:=ifF H hb7
  refine Ok.skip ?_
  refine Ok.seq ?_
  refine .rg [(4,(S t1))] [] ?_
  refine Ok.ret ?_
  obtain rfl:=Option.some.inj H
  exact⟨.inl rfl,⟨_,(.cons (.tmp rfl) .nil),rfl⟩,trivial⟩
def strings_Builder_WriteString (a0:T_strings_Builder) (a1:Str):Option (Int × Unit × T_strings_Builder):=(if a0.Buf_.length + a1.length ≤ 140737488355328 then some ((a1.length:Int),(),(T_strings_Builder.mk (a0.Buf_ ++ bytesOfStr a1))) else none)
theorem strings_Builder_WriteString.ok {a0:T_strings_Builder} {a1:Str} {r:Int × Unit × T_strings_Builder} (H:strings_Builder_WriteString a0 a1=some r) (b:Nat):Vx.Fn Tryz.prog 104 [(.bref 0 0),(S a1)] [(0,(.box (.bat b 155) [.junk,(.sref 1001)])),(1001,(.rows true 5 1 (a0.Buf_.map (eI .u8))))] (.tup [(.v (.int .i64 r.1)),(.v .nilIface)]) [(0,(.box (.bat b 155) [.junk,(.sref 1001)])),(1001,(.rows true 5 1 (r.2.2.Buf_.map (eI .u8)))),(999,.none)]:=by
 unfold strings_Builder_WriteString at H
 refine Vx.Fn.of_okR Tryz.func104 rfl (Nat.le_of_ble_eq_true rfl) ?_
 refine Ok.seq ?_
 refine .rg [(0,(.bref 0 0)),(1,(S a1))] [(0,(.box (.bat b 155) [.junk,(.sref 1001)])),(1001,(.rows true 5 1 (a0.Buf_.map (eI .u8))))] ?_
 refine Ok.seq ?_
 refine Ok.region (σ':=⟨[(0,(.bref 0 0)),(1,(S a1))],[(0,(.box (.bat b 155) [.junk,(.sref 1001)])),(1001,(.rows true 5 1 (a0.Buf_.map (eI .u8))))]⟩) ?_ ?_
 ·refine .rn 1 ?_
  refine OpsOk.cons rfl (OpOk.copyCheck rfl rfl cl121 rfl rfl rfl ccF ccU rfl) ?_
  exact .dn
 refine Ok.seq ?_
 obtain⟨c1,H⟩:=assertE H
 refine Ok.region (σ':=⟨[(1,(S a1))],[(0,(.box (.bat b 155) [.junk,(.sref 1001)])),(1001,(.rows true 5 1 ((a0.Buf_ ++ bytesOfStr a1).map (eI .u8))))]⟩) ?_ ?_
 ·refine .rn 6 ?_
  refine OpsOk.cons rfl (OpOk.appendS (xs:=a0.Buf_) (str:=a1) rfl Tryz.underlying121 Tryz.underlying9 elt5 zo5 rfl rfl rfl c1 rfl) ?_
  refine .rn 3 ?_
  exact .dn
 refine Ok.seq ?_
 refine .rg [(4,(.v (.int .i64 (a1.length:Int)))),(5,(.v .nilIface))] [(0,(.box (.bat b 155) [.junk,(.sref 1001)])),(1001,(.rows true 5 1 ((a0.Buf_ ++ bytesOfStr a1).map (eI .u8))))] ?_
 refine Ok.ret ?_
 obtain rfl:=Option.some.inj H
 exact⟨.inl rfl,⟨_,(.cons (.tmp rfl) (.cons (.tmp rfl) .nil)),rfl⟩,⟨.same _,.same _,.none _,trivial⟩⟩
def lex_Unescape.l0 (k:Nat) (a0:Str) (a1:Bool):Nat→List Int→Int→Option (Str × Int × Int)
 | 0,_,_ => none
 | m5 + 1,y1141_2,x5_1 => (if (decide (x5_1 < (a0.length:Int)))=true then (if (0:Int) ≤ x5_1 ∧ x5_1 ≤ (a0.length:Int) ∧ (a0.length:Int) ≤ (a0.length:Int) then ((strings_IndexByte (sl a0 x5_1 (a0.length:Int)) 38).bind fun (t7:Int) => (if (decide (t7 < 0))=true then (if (0:Int) ≤ x5_1 ∧ x5_1 ≤ (a0.length:Int) ∧ (a0.length:Int) ≤ (a0.length:Int) then ((lex_plain k (sl a0 x5_1 (a0.length:Int)) a1).bind fun (t10:Str) => ((strings_Builder_WriteString (T_strings_Builder.mk y1141_2) t10).bind fun (t12:Int × Unit × T_strings_Builder) => (if u8s t12.2.2.Buf_=true then some ((strOfBytes t12.2.2.Buf_),0,0) else none))) else none) else none)) else none) else none)
def lex_Unescape (k:Nat) (a0:Str) (a1:Bool):Option (Str × Int × Int):=lex_Unescape.l0 k a0 a1 k ([]:List Int) 0
theorem lex_Unescape.ok {k:Nat} {a0:Str} {a1:Bool} {r:Str × Int × Int} (H:lex_Unescape k a0 a1=some r):Vx.Fn Tryz.prog 92 [(S a0),(.v (.bool a1))] [] (.tup [(S r.1),(.v (.int .i64 r.2.1)),(.v (.int .i64 r.2.2))]) []:=by
 unfold lex_Unescape at H
 refine Vx.Fn.of_okR Tryz.func92 rfl (Nat.le_of_ble_eq_true rfl) ?_
 refine Ok.seq ?_
 refine .rg [(0,(S a0)),(1,(.v (.bool a1))),(5,(.v (.int .i64 0)))] [] ?_
 refine Ok.seq ?_
 refine Ok.region (σ':=⟨[(0,(S a0)),(1,(.v (.bool a1))),(5,(.v (.int .i64 0))),(7,(.bref 7 0))],[(7,(.box (.bld 155) [.junk,(.sref 1141)])),(1141,(.rows true 5 1 (([]:List Int).map (eI .u8))))]⟩) ?_ ?_
 ·refine OpsOk.cons rfl (OpOk.allocBd 7 [none,none] rfl zo155 rfl rfl) ?_
  refine OpsOk.sle (SLe.adopt 7 1141 1 5 1 rfl rfl rfl rfl rfl) ?_
  exact .dn
 refine Ok.seq ?_
 refine Ok.block ?_
 refine Ok.loop (fun m5 σ => ∃ (y1141_2:List Int) (x5_1:Int),σ=⟨[(0,(S a0)),(1,(.v (.bool a1))),(5,(.v (.int .i64 x5_1))),(7,(.bref 7 0))],[(7,(.box (.bld 155) [.junk,(.sref 1141)])),(1141,(.rows true 5 1 (y1141_2.map (eI .u8))))]⟩ ∧ lex_Unescape.l0 k a0 a1 m5 y1141_2 x5_1=some r) k ⟨([]:List Int),0,rfl,H⟩ ?_
 rintro m5 σ ⟨y1141_2,x5_1,rfl,H⟩
 cases m5 with
 | zero => exact absurd H (by simp [lex_Unescape.l0])
 | succ m5 =>
  unfold lex_Unescape.l0 at H
  refine Ok.seq ?_
  refine Ok.seq ?_
  refine .rg [(0,(S a0)),(1,(.v (.bool a1))),(5,(.v (.int .i64 x5_1))),(7,(.bref 7 0)),(14,(.v (.bool (decide (x5_1 < (a0.length:Int))))))] [(7,(.box (.bld 155) [.junk,(.sref 1141)])),(1141,(.rows true 5 1 (y1141_2.map (eI .u8))))] ?_
  refine Ok.test (b:=(decide (x5_1 < (a0.length:Int)))) rfl (fun hb16 => ?_) (fun hb16 => ?_)
  ·replace H:=ifT H hb16
   refine Ok.skip ?_
   refine Ok.block ?_
   refine Ok.seq ?_
   obtain⟨c6,H⟩:=assertE H
   obtain⟨t7,h8,H⟩:=bindE H
   refine Ok.region (σ':=⟨[(0,(S a0)),(1,(.v (.bool a1))),(5,(.v (.int .i64 x5_1))),(7,(.bref 7 0)),(8,(.v (.int .i64 t7)))],[(7,(.box (.bld 155) [.junk,(.sref 1141)])),(1141,(.rows true 5 1 (y1141_2.map (eI .u8))))]⟩) ?_ ?_
   ·refine .rn 2 ?_
    refine .cv (VOk.sliceStr (s:=a0) (l:=x5_1) (h:=(a0.length:Int)) rfl Tryz.underlying9 rfl rfl rfl c6) rfl rfl ?_
    refine .cg (GOk.call rfl rfl cl91 rfl (strings_IndexByte.ok h8) rfl) rfl rfl ?_
    refine .rn 1 ?_
    exact .dn
   refine Ok.seq ?_
   refine Ok.seq ?_
   refine .rg [(0,(S a0)),(1,(.v (.bool a1))),(5,(.v (.int .i64 x5_1))),(7,(.bref 7 0)),(20,(.v (.bool (decide (t7 < 0)))))] [(7,(.box (.bld 155) [.junk,(.sref 1141)])),(1141,(.rows true 5 1 (y1141_2.map (eI .u8))))] ?_
   refine Ok.test (b:=(decide (t7 < 0))) rfl (fun hb15 => ?_) (fun hb15 => ?_)
   ·replace H:=ifT H hb15
    refine Ok.seq ?_
    obtain⟨c9,H⟩:=assertE H
    obtain⟨t10,h11,H⟩:=bindE H
    obtain⟨t12,h13,H⟩:=bindE H
    refine Ok.region (σ':=⟨[(7,(.bref 7 0))],[(7,(.box (.bld 155) [.junk,(.sref 1141)])),(1141,(.rows true 5 1 (t12.2.2.Buf_.map (eI .u8))))]⟩) ?_ ?_
    ·refine .rn 2 ?_
     refine .cv (VOk.sliceStr (s:=a0) (l:=x5_1) (h:=(a0.length:Int)) rfl Tryz.underlying9 rfl rfl rfl c9) rfl rfl ?_
     refine .rn 1 ?_
     refine .cg (GOk.call rfl rfl cl105 rfl (lex_plain.ok h11) rfl) rfl rfl ?_
     refine OpsOk.cons rfl (OpOk.callT (e:=(.bld 155)) 7 1141 926 rfl rfl cl104 (fun b => ((strings_Builder_WriteString.ok h13) b)) rfl rfl rfl rfl rfl rfl rfl rfl) ?_
     exact .dn
    refine Ok.exit ?_
    refine Ok.seq ?_
    obtain⟨c14,H⟩:=assertE H
    refine Ok.region (σ':=⟨[(4,(S (strOfBytes t12.2.2.Buf_))),(5,(.v (.int .i64 0))),(6,(.v (.int .i64 0)))],[]⟩) ?_ ?_
    ·refine OpsOk.cons rfl (OpOk.callStr (xs:=t12.2.2.Buf_) rfl rfl cl107 rfl rfl rfl rfl rfl c14 bdS rfl) ?_
     refine .rn 3 ?_
     exact .dn
    refine Ok.ret ?_
    obtain rfl:=Option.some.inj H
    exact⟨.inl rfl,⟨_,(.cons (.tmp rfl) (.cons (.tmp rfl) (.cons (.tmp rfl) .nil))),rfl⟩,trivial⟩
   ·replace H:=ifF H hb15
    cases H
  ·replace H:=ifF H hb16
   cases H
def lex_lexer_value (k:Nat) (a0:T_lex_lexer) (a1:Int):Option (Str × T_lex_lexer):=(if (0:Int) ≤ (IntKind.i64.wrap (a0.At_ + 1)) ∧ (IntKind.i64.wrap (a0.At_ + 1)) ≤ (a0.S_.length:Int) ∧ (a0.S_.length:Int) ≤ (a0.S_.length:Int) then (if (0:Int) ≤ a0.At_ ∧ a0.At_ < (a0.S_.length:Int) then ((strings_IndexByte (sl a0.S_ (IntKind.i64.wrap (a0.At_ + 1)) (a0.S_.length:Int)) (bt a0.S_ a0.At_)).bind fun (t3:Int) => (if (decide (t3 < 0))=true then none else (if (0:Int) ≤ (IntKind.i64.wrap (a0.At_ + 1)) ∧ (IntKind.i64.wrap (a0.At_ + 1)) ≤ (IntKind.i64.wrap ((IntKind.i64.wrap (a0.At_ + 1)) + t3)) ∧ (IntKind.i64.wrap ((IntKind.i64.wrap (a0.At_ + 1)) + t3)) ≤ (a0.S_.length:Int) then ((strings_IndexByte (sl a0.S_ (IntKind.i64.wrap (a0.At_ + 1)) (IntKind.i64.wrap ((IntKind.i64.wrap (a0.At_ + 1)) + t3))) 60).bind fun (t6:Int) => (if (decide (t6 ≥ 0))=true then none else ((lex_Unescape k (sl a0.S_ (IntKind.i64.wrap (a0.At_ + 1)) (IntKind.i64.wrap ((IntKind.i64.wrap (a0.At_ + 1)) + t3))) true).bind fun (t8:Str × Int × Int) => (if (t8.2.2 != 0)=true then none else some (t8.1,(T_lex_lexer.mk a0.S_ (IntKind.i64.wrap ((IntKind.i64.wrap ((IntKind.i64.wrap (a0.At_ + 1)) + t3)) + 1)) a0.L_)))))) else none))) else none) else none)
theorem lex_lexer_value.ok {k:Nat} {a0:T_lex_lexer} {a1:Int} {r:Str × T_lex_lexer} (H:lex_lexer_value k a0 a1=some r) (b:Nat):Vx.Fn Tryz.prog 90 [(.bref 0 0),(.v (.int .i64 a1))] [(0,(lxB b a0)),(1002,(.rows true 78 5 (a0.L_.map e_api_Token)))] (S r.1) [(0,(lxB b r.2)),(1002,(.rows true 78 5 (r.2.L_.map e_api_Token))),(999,.none)]:=by
 unfold lex_lexer_value at H
 refine Vx.Fn.of_okR Tryz.func90 rfl (Nat.le_of_ble_eq_true rfl) ?_
 refine Ok.seq ?_
 refine .rg [(0,(.bref 0 0))] [(0,(lxB b a0)),(1002,(.rows true 78 5 (a0.L_.map e_api_Token)))] ?_
 refine Ok.seq ?_
 refine .rg [(0,(.bref 0 0)),(5,(.v (.int .i64 (IntKind.i64.wrap (a0.At_ + 1)))))] [(0,(lxB b a0)),(1002,(.rows true 78 5 (a0.L_.map e_api_Token)))] ?_
 refine Ok.seq ?_
 obtain⟨c1,H⟩:=assertE H
 obtain⟨c2,H⟩:=assertE H
 obtain⟨t3,h4,H⟩:=bindE H
 refine .dA [(0,(.bref 0 0)),(5,(.v (.int .i64 (IntKind.i64.wrap (a0.At_ + 1))))),(6,(.v (.int .i64 t3)))] [(0,(lxB b a0)),(1002,(.rows true 78 5 (a0.L_.map e_api_Token)))] [[],[0],[1],[2],[],[3,4],[],[6],[7],[8],[],[10],[11],[12],[9,13],[5,14],[15]] mixed ?_ ?_
 ·refine .tn 5 ?_
  refine .tc (VOk.g (VOk.sliceStr (s:=a0.S_) (l:=(IntKind.i64.wrap (a0.At_ + 1))) (h:=(a0.S_.length:Int)) rfl Tryz.underlying9 rfl rfl rfl c1)) ?_
  refine .tn 8 ?_
  refine .tc (VOk.g (VOk.indexStr (s:=a0.S_) (i:=a0.At_) rfl Tryz.underlying9 rfl rfl c2)) ?_
  refine .tc (GOk.call rfl rfl cl91 rfl (strings_IndexByte.ok h4) rfl) ?_
  refine .tn 1 ?_
  exact .dn
 refine Ok.seq ?_
 refine Ok.seq ?_
 refine .rg [(0,(.bref 0 0)),(5,(.v (.int .i64 (IntKind.i64.wrap (a0.At_ + 1))))),(6,(.v (.int .i64 t3))),(34,(.v (.bool (decide (t3 < 0)))))] [(0,(lxB b a0)),(1002,(.rows true 78 5 (a0.L_.map e_api_Token)))] ?_
 refine Ok.test (b:=(decide (t3 < 0))) rfl (fun hb12 => ?_) (fun hb12 => ?_)
 ·replace H:=ifT H hb12
  cases H
 ·replace H:=ifF H hb12
  refine Ok.skip ?_
  refine Ok.seq ?_
  obtain⟨c5,H⟩:=assertE H
  refine Ok.region (σ':=⟨[(0,(.bref 0 0)),(5,(.v (.int .i64 (IntKind.i64.wrap (a0.At_ + 1))))),(6,(.v (.int .i64 t3))),(7,(S (sl a0.S_ (IntKind.i64.wrap (a0.At_ + 1)) (IntKind.i64.wrap ((IntKind.i64.wrap (a0.At_ + 1)) + t3)))))],[(0,(lxB b a0)),(1002,(.rows true 78 5 (a0.L_.map e_api_Token)))]⟩) ?_ ?_
  ·refine .rn 8 ?_
   refine .cv (VOk.sliceStr (s:=a0.S_) (l:=(IntKind.i64.wrap (a0.At_ + 1))) (h:=(IntKind.i64.wrap ((IntKind.i64.wrap (a0.At_ + 1)) + t3))) rfl Tryz.underlying9 rfl rfl rfl c5) rfl rfl ?_
   refine .rn 1 ?_
   exact .dn
  refine Ok.seq ?_
  refine Ok.seq ?_
  obtain⟨t6,h7,H⟩:=bindE H
  refine Ok.region (σ':=⟨[(0,(.bref 0 0)),(5,(.v (.int .i64 (IntKind.i64.wrap (a0.At_ + 1))))),(6,(.v (.int .i64 t3))),(7,(S (sl a0.S_ (IntKind.i64.wrap (a0.At_ + 1)) (IntKind.i64.wrap ((IntKind.i64.wrap (a0.At_ + 1)) + t3))))),(8,(.v (.int .i64 t6)))],[(0,(lxB b a0)),(1002,(.rows true 78 5 (a0.L_.map e_api_Token)))]⟩) ?_ ?_
  ·refine .rn 1 ?_
   refine .cg (GOk.call rfl rfl cl91 rfl (strings_IndexByte.ok h7) rfl) rfl rfl ?_
   refine .rn 1 ?_
   exact .dn
  refine Ok.seq ?_
  refine .rg [(0,(.bref 0 0)),(5,(.v (.int .i64 (IntKind.i64.wrap (a0.At_ + 1))))),(6,(.v (.int .i64 t3))),(7,(S (sl a0.S_ (IntKind.i64.wrap (a0.At_ + 1)) (IntKind.i64.wrap ((IntKind.i64.wrap (a0.At_ + 1)) + t3))))),(50,(.v (.bool (decide (t6 ≥ 0)))))] [(0,(lxB b a0)),(1002,(.rows true 78 5 (a0.L_.map e_api_Token)))] ?_
  refine Ok.test (b:=(decide (t6 ≥ 0))) rfl (fun hb11 => ?_) (fun hb11 => ?_)
  ·replace H:=ifT H hb11
   cases H
  ·replace H:=ifF H hb11
   refine Ok.skip ?_
   refine Ok.seq ?_
   obtain⟨t8,h9,H⟩:=bindE H
   refine Ok.region (σ':=⟨[(0,(.bref 0 0)),(5,(.v (.int .i64 (IntKind.i64.wrap (a0.At_ + 1))))),(6,(.v (.int .i64 t3))),(9,(S t8.1)),(11,(.v (.int .i64 t8.2.2)))],[(0,(lxB b a0)),(1002,(.rows true 78 5 (a0.L_.map e_api_Token)))]⟩) ?_ ?_
   ·refine .rn 1 ?_
    refine .cg (GOk.call rfl rfl cl92 rfl (lex_Unescape.ok h9) rfl) rfl rfl ?_
    refine .rn 7 ?_
    exact .dn
   refine Ok.seq ?_
   refine Ok.seq ?_
   refine .rg [(0,(.bref 0 0)),(5,(.v (.int .i64 (IntKind.i64.wrap (a0.At_ + 1))))),(6,(.v (.int .i64 t3))),(9,(S t8.1)),(63,(.v (.bool (t8.2.2 != 0))))] [(0,(lxB b a0)),(1002,(.rows true 78 5 (a0.L_.map e_api_Token)))] ?_
   refine Ok.test (b:=(t8.2.2 != 0)) rfl (fun hb10 => ?_) (fun hb10 => ?_)
   ·replace H:=ifT H hb10
    cases H
   ·replace H:=ifF H hb10
    refine Ok.skip ?_
    refine Ok.seq ?_
    refine .rg [(9,(S t8.1))] [(0,(.box (.at b) [(S a0.S_),(.v (.int .i64 (IntKind.i64.wrap ((IntKind.i64.wrap ((IntKind.i64.wrap (a0.At_ + 1)) + t3)) + 1)))),(.sref 1002)])),(1002,(.rows true 78 5 (a0.L_.map e_api_Token)))] ?_
    refine Ok.seq ?_
    refine .rg [(4,(S t8.1))] [(0,(.box (.at b) [(S a0.S_),(.v (.int .i64 (IntKind.i64.wrap ((IntKind.i64.wrap ((IntKind.i64.wrap (a0.At_ + 1)) + t3)) + 1)))),(.sref 1002)])),(1002,(.rows true 78 5 (a0.L_.map e_api_Token)))] ?_
    refine Ok.ret ?_
    obtain rfl:=Option.some.inj H
    exact⟨.inl rfl,⟨_,(.cons (.tmp rfl) .nil),rfl⟩,⟨.same _,.same _,.none _,trivial⟩⟩
end Go.Proofs.YtapbckofgcmgmaaGreatDoor.Sh
