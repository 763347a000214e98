import Derived.Test.YtjhbedgepfkdbaaProg
import Derived.Test.YtjhbedgepfkdbaaVxSo
import Derived.Test.YtjhbedgepfkdbaaVxTa
namespace Go.Proofs.Ytjhbedgepfkdbaa.Sh
open Go Go.RowKit Go.Proofs.Vx
set_option linter.unusedVariables false

set_option maxRecDepth 100000
set_option maxHeartbeats 1000000
structure T_api_Name where
  Space : Str
  Local : Str
  deriving Inhabited
def e_api_Name (x : T_api_Name) : List D := [(S x.Space), (S x.Local)]
structure T_api_Attr where
  Name : T_api_Name
  Value : Str
  deriving Inhabited
def e_api_Attr (x : T_api_Attr) : List D := [(S x.Name.Space), (S x.Name.Local), (S x.Value)]
structure T_api_Node where
  Kind : Int
  Name : T_api_Name
  Attrs : List T_api_Attr
  Kids : List T_api_Node
  Text : Str
  deriving Inhabited
mutual
def r_api_Node : T_api_Node → List D
  | .mk x0 x1 x2 x3 x4 => [(.v (.int .i64 x0)), (S x1.Space), (S x1.Local), (L 3 e_api_Attr x2), (.list 6 (r_api_NodeL x3)), (S x4)]
def r_api_NodeL : List T_api_Node → List (List D)
  | [] => []
  | x :: xs => r_api_Node x :: r_api_NodeL xs
end
theorem r_api_NodeL_eq : ∀ xs, r_api_NodeL xs = xs.map r_api_Node
  | [] => rfl
  | x :: xs => by rw [r_api_NodeL, r_api_NodeL_eq xs]; rfl
def e_api_Node (x : T_api_Node) : List D := [(.v (.int .i64 x.Kind)), (S x.Name.Space), (S x.Name.Local), (L 3 e_api_Attr x.Attrs), (L 6 r_api_Node x.Kids), (S x.Text)]
theorem r_api_Node_eq : r_api_Node = e_api_Node := funext fun x => by cases x; rw [r_api_Node]; simp only [r_api_NodeL_eq]; rfl
theorem e_api_Node_c (x : T_api_Node) : e_api_Node x = [(.v (.int .i64 x.Kind)), (S x.Name.Space), (S x.Name.Local), (L 3 e_api_Attr x.Attrs), (L 6 e_api_Node x.Kids), (S x.Text)] := by show [(.v (.int .i64 x.Kind)), (S x.Name.Space), (S x.Name.Local), (L 3 e_api_Attr x.Attrs), (L 6 r_api_Node x.Kids), (S x.Text)] = _; simp only [r_api_Node_eq]
def c_api_Attr (x : T_api_Attr) : List D := [(S x.Name.Space), (S x.Name.Local), (S x.Value)]
def c_api_Node (x : T_api_Node) : List D := [(.v (.int .i64 x.Kind)), (S x.Name.Space), (S x.Name.Local), (L 3 e_api_Attr x.Attrs), (L 6 e_api_Node x.Kids), (S x.Text)]
instance : Glo := ⟨fun _ => True, fun _ => False, fun _ _ _ h => h⟩
theorem mixed : Try.prog.follows .mixedOrders = true := by kernel_rfl
theorem sz3 : szOf Try.prog 3 = some 1 := by kernel_rfl
theorem sz9 : szOf Try.prog 9 = some 1 := by kernel_rfl
theorem sz23 : szOf Try.prog 23 = some 2 := by kernel_rfl
theorem sz24 : szOf Try.prog 24 = some 1 := by kernel_rfl
theorem sz25 : szOf Try.prog 25 = some 1 := by kernel_rfl
theorem fa27 {fs : Array Field} (h : Try.prog.underlying 27 = some (.struct fs)) : fieldsAt Try.prog fs [(0, 1), (1, 2), (3, 1), (4, 1), (5, 1)] := by rw [Try.underlying27] at h; cases h; unfold fieldsAt; kernel_rfl
theorem zo27 : zeroOf Try.prog 27 = some (.agg #[(.int .i64 0), (.string (ba [])), (.string (ba [])), (.slice none 0 0), (.slice none 0 0), (.string (ba []))]) := by kernel_rfl
theorem fa23 {fs : Array Field} (h : Try.prog.underlying 23 = some (.struct fs)) : fieldsAt Try.prog fs [(0, 1), (1, 1)] := by rw [Try.underlying23] at h; cases h; unfold fieldsAt; kernel_rfl
theorem zo23 : zeroOf Try.prog 23 = some (.agg #[(.string (ba [])), (.string (ba []))]) := by kernel_rfl
theorem sz27 : szOf Try.prog 27 = some 6 := by kernel_rfl
theorem cl25 : callable Try.prog 25 = true := by kernel_rfl
theorem zs27 : (zeroOf Try.prog 27).map (fun z => z.cells.size) = some 6 := by kernel_rfl
theorem zs3 : (zeroOf Try.prog 3).map (fun z => z.cells.size) = some 1 := by kernel_rfl
theorem cl21 : callable Try.prog 21 = true := by kernel_rfl
theorem cl20 : callable Try.prog 20 = true := by kernel_rfl
theorem cl27 : callable Try.prog 27 = true := by kernel_rfl
theorem sz47 : szOf Try.prog 47 = some 3 := by kernel_rfl
theorem zs47 : (zeroOf Try.prog 47).map (fun z => z.cells.size) = some 3 := by kernel_rfl
theorem by47 : bytesOf Try.prog 47 = some 48 := by kernel_rfl
theorem elt47 : Elt Try.prog 47 3 48 := .mk' sz47 by47 zs47 rfl
theorem cl45 : callable Try.prog 45 = true := by kernel_rfl
theorem by27 : bytesOf Try.prog 27 = some 104 := by kernel_rfl
theorem elt27 : Elt Try.prog 27 6 104 := .mk' sz27 by27 zs27 rfl
theorem cl46 : callable Try.prog 46 = true := by kernel_rfl
theorem cl28 : callable Try.prog 28 = true := by kernel_rfl
theorem cl8 : callable Try.prog 8 = true := by kernel_rfl
theorem sz28 : szOf Try.prog 28 = some 1 := by kernel_rfl
theorem zs28 : (zeroOf Try.prog 28).map (fun z => z.cells.size) = some 1 := by kernel_rfl
theorem cl10 : callable Try.prog 10 = true := by kernel_rfl
theorem by3 : bytesOf Try.prog 3 = some 8 := by kernel_rfl
theorem elt3 : Elt Try.prog 3 1 8 := .mk' sz3 by3 zs3 rfl
theorem by28 : bytesOf Try.prog 28 = some 24 := by kernel_rfl
theorem elt28 : Elt Try.prog 28 1 24 := .mk' sz28 by28 zs28 rfl
theorem cl6 : callable Try.prog 6 = true := by kernel_rfl
theorem cl26 : callable Try.prog 26 = true := by kernel_rfl
theorem cl7 : callable Try.prog 7 = true := by kernel_rfl
theorem cl9 : callable Try.prog 9 = true := by kernel_rfl
theorem cl11 : callable Try.prog 11 = true := by kernel_rfl
theorem eqt9 (d : Nat) : EqT Try.prog (d + 1) 9 [1] := .str d 9 Try.underlying9
theorem ag9 : (Try.prog.underlying 9).map aggB = some false := by rw [Try.underlying9]; rfl
theorem eg9 : Try.prog.eqGuardType Try.prog.depth 9 = false := by kernel_rfl
theorem eqt23 (d : Nat) : EqT Try.prog (d + 2) 23 [1, 1] := by
  refine EqT.struct (d + 1) 23 _ [[1], [1]] Try.underlying23 (by kernel_rfl) rfl ?_ ?_
  · intro i f ks hf hk
    match i, hf, hk with
    | 0, hf, hk => cases hf; cases hk; exact ⟨by decide, rfl, sz9⟩
    | 1, hf, hk => cases hf; cases hk; exact ⟨by decide, rfl, sz9⟩
    | i + 2, hf, hk => simp at hk
  · intro i f ks hf hk
    match i, hf, hk with
    | 0, hf, hk => cases hf; cases hk; exact eqt9 (d + 0)
    | 1, hf, hk => cases hf; cases hk; exact eqt9 (d + 0)
    | i + 2, hf, hk => simp at hk
theorem ag23 : (Try.prog.underlying 23).map aggB = some true := by rw [Try.underlying23]; rfl
theorem eg23 : Try.prog.eqGuardType Try.prog.depth 23 = false := by kernel_rfl
theorem eqt47 (d : Nat) : EqT Try.prog (d + 3) 47 [1, 1, 1] := by
  refine EqT.struct (d + 2) 47 _ [[1, 1], [1]] Try.underlying47 (by kernel_rfl) rfl ?_ ?_
  · intro i f ks hf hk
    match i, hf, hk with
    | 0, hf, hk => cases hf; cases hk; exact ⟨by decide, rfl, sz23⟩
    | 1, hf, hk => cases hf; cases hk; exact ⟨by decide, rfl, sz9⟩
    | i + 2, hf, hk => simp at hk
  · intro i f ks hf hk
    match i, hf, hk with
    | 0, hf, hk => cases hf; cases hk; exact eqt23 (d + 0)
    | 1, hf, hk => cases hf; cases hk; exact eqt9 (d + 1)
    | i + 2, hf, hk => simp at hk
theorem ag47 : (Try.prog.underlying 47).map aggB = some true := by rw [Try.underlying47]; rfl
theorem eg47 : Try.prog.eqGuardType Try.prog.depth 47 = false := by kernel_rfl
theorem cl34 : callable Try.prog 34 = true := by kernel_rfl
theorem cl35 : callable Try.prog 35 = true := by kernel_rfl
theorem cl19 : callable Try.prog 19 = true := by kernel_rfl
theorem cl12 : callable Try.prog 12 = true := by kernel_rfl
theorem cl13 : callable Try.prog 13 = true := by kernel_rfl
theorem cl14 : callable Try.prog 14 = true := by kernel_rfl
theorem cl57 : callable Try.prog 57 = true := by kernel_rfl
theorem cl56 : callable Try.prog 56 = true := by kernel_rfl
/-! watchbill/watchbilllaw06.one: function 25 -/
def watchbilllaw06_one (a0 : List T_api_Node) : Option T_api_Node := some (T_api_Node.mk 1 (T_api_Name.mk ((T_api_Name.mk ([] : Str) ([97] : Str)).Space) ((T_api_Name.mk ([] : Str) ([97] : Str)).Local)) ([] : List T_api_Attr) a0 ([] : Str))
theorem watchbilllaw06_one.ok {a0 : List T_api_Node} {r : T_api_Node} (H : watchbilllaw06_one a0 = some r) : Vx.Fn Try.prog 25 [(L 6 e_api_Node a0)] [] (.agg (e_api_Node r)) [] := by
  unfold watchbilllaw06_one at H
  refine Vx.Fn.of_okR Try.func25 rfl (Nat.le_of_ble_eq_true rfl) ?_
  refine Ok.seq ?_
  refine Ok.region (σ' := ⟨[(0, (L 6 e_api_Node a0)), (2, (.bref 2 0))], [(2, (.box .ex [(.v (.int .i64 0)), (S ([] : Str)), (S ([] : Str)), (L 3 e_api_Attr ([] : List T_api_Attr)), (L 6 e_api_Node ([] : List T_api_Node)), (S ([] : Str))]))]⟩) ?_ ?_
  · refine OpsOk.cons rfl (OpOk.alloc 2 [none, none, none, some 3, some 6, none] rfl zo27 rfl rfl) ?_
    exact .done (.rf rfl rfl)
  refine Ok.seq ?_
  refine Ok.region (σ' := ⟨[(2, (.bref 2 0))], [(2, (.box .ex (c_api_Node (T_api_Node.mk 1 (T_api_Name.mk ((T_api_Name.mk ([] : Str) ([97] : Str)).Space) ((T_api_Name.mk ([] : Str) ([97] : Str)).Local)) ([] : List T_api_Attr) a0 ([] : Str)))))]⟩) ?_ ?_
  · refine .cv (VOk.to (d' := (.agg (e_api_Name (T_api_Name.mk ([] : Str) ([97] : Str))))) (.build [none, none] [(0, 1), (1, 1)] rfl Try.underlying23 (fa23 Try.underlying23) zo23 rfl rfl) rfl) rfl rfl ?_
    refine .cv (VOk.mv (d := (L 6 e_api_Node a0)) rfl rfl) rfl rfl ?_
    refine .cv (VOk.to (d' := (.agg (e_api_Node (T_api_Node.mk 1 (T_api_Name.mk ((T_api_Name.mk ([] : Str) ([97] : Str)).Space) ((T_api_Name.mk ([] : Str) ([97] : Str)).Local)) ([] : List T_api_Attr) a0 ([] : Str))))) (.build [none, none, none, some 3, some 6, none] [(0, 1), (1, 2), (3, 1), (4, 1), (5, 1)] rfl Try.underlying27 (fa27 Try.underlying27) zo27 rfl rfl) (congrArg D.agg (e_api_Node_c (T_api_Node.mk 1 (T_api_Name.mk ((T_api_Name.mk ([] : Str) ([97] : Str)).Space) ((T_api_Name.mk ([] : Str) ([97] : Str)).Local)) ([] : List T_api_Attr) a0 ([] : Str))).symm)) rfl rfl ?_
    refine OpsOk.cut1 5 (.agg [(.v (.int .i64 ((T_api_Node.mk 1 (T_api_Name.mk ((T_api_Name.mk ([] : Str) ([97] : Str)).Space) ((T_api_Name.mk ([] : Str) ([97] : Str)).Local)) ([] : List T_api_Attr) a0 ([] : Str)).Kind))), (S ((T_api_Node.mk 1 (T_api_Name.mk ((T_api_Name.mk ([] : Str) ([97] : Str)).Space) ((T_api_Name.mk ([] : Str) ([97] : Str)).Local)) ([] : List T_api_Attr) a0 ([] : Str)).Name.Space)), (S ((T_api_Node.mk 1 (T_api_Name.mk ((T_api_Name.mk ([] : Str) ([97] : Str)).Space) ((T_api_Name.mk ([] : Str) ([97] : Str)).Local)) ([] : List T_api_Attr) a0 ([] : Str)).Name.Local)), (L 3 e_api_Attr ((T_api_Node.mk 1 (T_api_Name.mk ((T_api_Name.mk ([] : Str) ([97] : Str)).Space) ((T_api_Name.mk ([] : Str) ([97] : Str)).Local)) ([] : List T_api_Attr) a0 ([] : Str)).Attrs)), (L 6 e_api_Node ((T_api_Node.mk 1 (T_api_Name.mk ((T_api_Name.mk ([] : Str) ([97] : Str)).Space) ((T_api_Name.mk ([] : Str) ([97] : Str)).Local)) ([] : List T_api_Attr) a0 ([] : Str)).Kids)), (S ((T_api_Node.mk 1 (T_api_Name.mk ((T_api_Name.mk ([] : Str) ([97] : Str)).Space) ((T_api_Name.mk ([] : Str) ([97] : Str)).Local)) ([] : List T_api_Attr) a0 ([] : Str)).Text))]) (DLe.of_eq (congrArg D.agg (e_api_Node_c _).symm)) ?_
    refine OpsOk.cons rfl (OpOk.to (σ2 := St.put ⟨_, (2, (.box .ex (c_api_Node (T_api_Node.mk 1 (T_api_Name.mk ((T_api_Name.mk ([] : Str) ([97] : Str)).Space) ((T_api_Name.mk ([] : Str) ([97] : Str)).Local)) ([] : List T_api_Attr) a0 ([] : Str))))) :: _⟩ _ .junk) (.storeB rfl sz27 rfl rfl rfl rfl rfl rfl) rfl) ?_
    exact .done (.rf rfl rfl)
  refine Ok.ret ?_
  obtain rfl := Option.some.inj H
  exact ⟨.inl rfl, ⟨_, (.cons (.cell (VOk.to (d' := (.agg (e_api_Node (T_api_Node.mk 1 (T_api_Name.mk ((T_api_Name.mk ([] : Str) ([97] : Str)).Space) ((T_api_Name.mk ([] : Str) ([97] : Str)).Local)) ([] : List T_api_Attr) a0 ([] : Str))))) (.loadBAgg rfl Try.underlying27 rfl sz27 rfl rfl rfl) (congrArg D.agg (e_api_Node_c (T_api_Node.mk 1 (T_api_Name.mk ((T_api_Name.mk ([] : Str) ([97] : Str)).Space) ((T_api_Name.mk ([] : Str) ([97] : Str)).Local)) ([] : List T_api_Attr) a0 ([] : Str))).symm))) .nil), rfl⟩, trivial⟩

/-! watchbill/path.kid: function 27 -/
def path_kid (a0 : T_api_Node) (a1 : Int) : Option Bool := some ((decide (a1 ≥ 0)) && (decide (a1 < (a0.Kids.length : Int))))
theorem path_kid.ok {a0 : T_api_Node} {a1 : Int} {r : Bool} (H : path_kid a0 a1 = some r) : Vx.Fn Try.prog 27 [(.agg (e_api_Node a0)), (.v (.int .i64 a1))] [] (.v (.bool r)) [] := by
  unfold path_kid at H
  refine Vx.Fn.of_okR Try.func27 rfl (Nat.le_of_ble_eq_true rfl) ?_
  refine Ok.seq ?_
  refine Ok.region (σ' := ⟨[(1, (.v (.int .i64 a1))), (2, (.bref 2 0))], [(2, (.box .ex (c_api_Node a0)))]⟩) ?_ ?_
  · refine OpsOk.cut1 0 (.agg [(.v (.int .i64 a0.Kind)), (S a0.Name.Space), (S a0.Name.Local), (L 3 e_api_Attr a0.Attrs), (L 6 e_api_Node a0.Kids), (S a0.Text)]) (DLe.of_eq (congrArg D.agg (e_api_Node_c _).symm)) ?_
    refine OpsOk.cons rfl (OpOk.box 2 (cells := [(.v (.int .i64 a0.Kind)), (S a0.Name.Space), (S a0.Name.Local), (L 3 e_api_Attr a0.Attrs), (L 6 e_api_Node a0.Kids), (S a0.Text)]) rfl rfl rfl rfl) ?_
    refine .cv (VOk.asg (d := (.v (.bool false))) rfl rfl) rfl rfl ?_
    exact .done (.rf rfl rfl)
  refine Ok.seq ?_
  refine Ok.region (σ' := ⟨[(4, (.v (.bool ((decide (a1 ≥ 0)) && (decide (a1 < (a0.Kids.length : Int)))))))], []⟩) ?_ ?_
  · refine .cv (VOk.mv (d := (.v (.int .i64 a1))) rfl rfl) rfl rfl ?_
    refine .cv (VOk.arith (op := .geq) (k := .i64) (a := a1) (b := 0) rfl rfl rfl rfl) rfl rfl ?_
    refine .cv (VOk.mv (d := (.v (.bool (decide (a1 ≥ 0))))) rfl rfl) rfl rfl ?_
    refine OpsOk.consI rfl rfl rfl (.one rfl) rfl (fun hw1 => (VOk.g (VOk.mv (d := (.v (.int .i64 a1))) rfl rfl))) ?_
    refine OpsOk.consI rfl rfl rfl (.one rfl) rfl (fun hw1 => (VOk.g (VOk.to (VOk.fieldB rfl Try.underlying27 rfl sz25 rfl rfl) rfl))) ?_
    refine OpsOk.consI rfl rfl rfl (.one rfl) rfl (fun hw1 => (GOk.fr (fr' := [(9, (.bref 2 4))]) ⟨DLe.of_eq (cT hw1).symm, trivial⟩ (VOk.g (VOk.loadB (d := (L 6 e_api_Node a0.Kids)) rfl Try.underlying25 rfl rfl rfl rfl)))) ?_
    refine OpsOk.consI rfl rfl rfl (.one rfl) rfl (fun hw1 => (GOk.fr (fr' := [(10, (L 6 e_api_Node a0.Kids))]) ⟨DLe.of_eq (cT hw1).symm, trivial⟩ (VOk.g (VOk.lenL (e := e_api_Node) (xs := a0.Kids) rfl Try.underlying25 rfl)))) ?_
    refine OpsOk.consI rfl rfl rfl (.one rfl) rfl (fun hw1 => (GOk.fr (fr' := [(8, (.v (.int .i64 a1))), (11, (.v (.int .i64 (a0.Kids.length : Int))))]) ⟨DLe.of_eq (cT hw1).symm, DLe.of_eq (cT hw1).symm, trivial⟩ (VOk.g (VOk.arith (op := .lss) (k := .i64) (a := a1) (b := (a0.Kids.length : Int)) rfl rfl rfl rfl)))) ?_
    refine .cv (VOk.to (VOk.pickI (b := (decide (a1 ≥ 0))) (p := (decide (a1 < (a0.Kids.length : Int)))) (q := false) rfl rfl (fun hp2 => (cT (t_beq hp2))) (fun hp2 => rfl)) (pickAnd (decide (a1 ≥ 0)) (decide (a1 < (a0.Kids.length : Int))))) rfl rfl ?_
    refine .cv (VOk.asg (d := (.v (.bool ((decide (a1 ≥ 0)) && (decide (a1 < (a0.Kids.length : Int))))))) rfl rfl) rfl rfl ?_
    exact .done (.rf rfl rfl)
  refine Ok.ret ?_
  obtain rfl := Option.some.inj H
  exact ⟨.inl rfl, ⟨_, (.cons (.tmp rfl) .nil), rfl⟩, trivial⟩

/-! slices.Clone[[]watchbill/api.Attr,watchbill/api.Attr]: function 45 -/
def slices_Clone_45 (a0 : List T_api_Attr) : Option (List T_api_Attr) := (if (([] : List T_api_Attr).length + a0.length) * 48 ≤ 140737488355328 then some (([] : List T_api_Attr) ++ a0) else none)
theorem slices_Clone_45.ok {a0 : List T_api_Attr} {r : (List T_api_Attr)} (H : slices_Clone_45 a0 = some r) : Vx.Fn Try.prog 45 [(L 3 e_api_Attr a0)] [] (L 3 e_api_Attr r) [] := by
  unfold slices_Clone_45 at H
  refine Vx.Fn.of_okR Try.func45 rfl (Nat.le_of_ble_eq_true rfl) ?_
  refine Ok.seq ?_
  refine Ok.region (σ' := ⟨[(0, (L 3 e_api_Attr a0))], []⟩) ?_ ?_
  · refine .cv (VOk.asg (d := (.v (.slice none 0 0))) rfl rfl) rfl rfl ?_
    exact .done (.rf rfl rfl)
  refine Ok.seq ?_
  refine Ok.seq ?_
  refine Ok.regionB (X := fun b => b = true → a0 = []) (σ' := fun nb1 => ⟨[(0, (L 3 e_api_Attr a0)), (4, (.v (.bool nb1)))], []⟩) ?_ (fun nb1 hnb1 => ?_)
  · refine OpsB.cons rfl (.v (VOk.mv (d := (L 3 e_api_Attr a0)) rfl rfl) rfl) ?_
    exact .last rfl (BOk.eqNil (E := e_api_Attr) (xs := a0) rfl Try.underlying24 rfl) rfl (fun nb1 => (.rf rfl rfl))
  refine Ok.test (b := nb1) rfl (fun hb3 => ?_) (fun hb3 => ?_)
  · replace H : some ([] : List T_api_Attr) = some r := nilH (hnb1 hb3) H (fun h => by (try rw [h]); rfl)
    refine Ok.seq ?_
    refine Ok.region (σ' := ⟨[(2, (.v (.slice none 0 0)))], []⟩) ?_ ?_
    · refine .cv (VOk.asg (d := (.v (.slice none 0 0))) rfl rfl) rfl rfl ?_
      exact .done (.rf rfl rfl)
    refine Ok.le (σ' := ⟨[(2, (L 3 e_api_Attr ([] : List T_api_Attr)))], []⟩) (.mk ⟨.nil _, trivial⟩ trivial) ?_
    refine Ok.ret ?_
    obtain rfl := Option.some.inj H
    exact ⟨.inl rfl, ⟨_, (.cons (.tmp rfl) .nil), rfl⟩, trivial⟩
  · refine Ok.skip ?_
    refine Ok.seq ?_
    obtain ⟨c2, H⟩ := assertE H
    refine Ok.region (σ' := ⟨[(2, (L 3 e_api_Attr (([] : List T_api_Attr) ++ a0)))], []⟩) ?_ ?_
    · refine .cg (GOk.to (d' := (.clist 3 (List.map e_api_Attr ([] : List T_api_Attr)))) (GOk.litC rfl Try.underlying24 sz47 zs47 rfl rfl rfl rfl) rfl) rfl rfl ?_
      refine .cv (VOk.mv (d := (L 3 e_api_Attr a0)) rfl rfl) rfl rfl ?_
      refine .cg (GOk.appendC (e := e_api_Attr) (xs := ([] : List T_api_Attr)) (ys := a0) rfl Try.underlying24 elt47 (.same _) rfl c2) rfl rfl ?_
      refine .cv (VOk.asg (d := (L 3 e_api_Attr (([] : List T_api_Attr) ++ a0))) rfl rfl) rfl rfl ?_
      exact .done (.rf rfl rfl)
    refine Ok.ret ?_
    obtain rfl := Option.some.inj H
    exact ⟨.inl rfl, ⟨_, (.cons (.tmp rfl) .nil), rfl⟩, trivial⟩

/-! slices.Clone[[]watchbill/api.Node,watchbill/api.Node]: function 46 -/
def slices_Clone_46_o (a0 : List T_api_Node) : Option (List T_api_Node) := (if (([] : List T_api_Node).length + a0.length) * 104 ≤ 140737488355328 then some (([] : List T_api_Node) ++ a0) else none)
theorem slices_Clone_46_o.ok {a0 : List T_api_Node} {r : (List T_api_Node)} (H : slices_Clone_46_o a0 = some r) : Vx.Fn Try.prog 46 [(L 6 e_api_Node a0)] [] (.sref 0) [(0, .rows true 27 6 (List.map e_api_Node r))] := by
  unfold slices_Clone_46_o at H
  refine Vx.Fn.of_okO (t := 2) Try.func46 rfl (Nat.le_of_ble_eq_true rfl) rfl ?_
  refine Ok.seq ?_
  refine Ok.region (σ' := ⟨[(0, (L 6 e_api_Node a0))], []⟩) ?_ ?_
  · refine OpsOk.cons rfl (.nilT 2 27 6 (.inl rfl) rfl rfl) ?_
    exact .done (.rf rfl rfl)
  refine Ok.seq ?_
  refine Ok.seq ?_
  refine Ok.regionB (X := fun b => b = true → a0 = []) (σ' := fun nb1 => ⟨[(0, (L 6 e_api_Node a0)), (4, (.v (.bool nb1)))], []⟩) ?_ (fun nb1 hnb1 => ?_)
  · refine OpsB.cons rfl (.v (VOk.mv (d := (L 6 e_api_Node a0)) rfl rfl) rfl) ?_
    exact .last rfl (BOk.eqNil (E := e_api_Node) (xs := a0) rfl Try.underlying25 rfl) rfl (fun nb1 => (.rf rfl rfl))
  refine Ok.test (b := nb1) rfl (fun hb3 => ?_) (fun hb3 => ?_)
  · replace H : some ([] : List T_api_Node) = some r := nilH (hnb1 hb3) H (fun h => by (try rw [h]); rfl)
    refine Ok.seq ?_
    refine Ok.region (σ' := ⟨[(2, (.sref 2))], [(2, (.rows true 27 6 (([] : List T_api_Node).map e_api_Node)))]⟩) ?_ ?_
    · refine OpsOk.cons rfl (.nilT 2 27 6 (.inl rfl) rfl rfl) ?_
      exact .done (.rf rfl rfl)
    refine Ok.le (σ' := ⟨[(2, (.sref 2))], [(2, (.rows true 27 6 (([] : List T_api_Node).map e_api_Node)))]⟩) (.rf rfl rfl) ?_
    refine Ok.ret ?_
    obtain rfl := Option.some.inj H
    exact ⟨.inl rfl, 2, rfl, rfl⟩
  · refine Ok.skip ?_
    refine Ok.seq ?_
    obtain ⟨c2, H⟩ := assertE H
    refine Ok.region (σ' := ⟨[(2, (.sref 5))], [(5, (.rows true 27 6 ((([] : List T_api_Node) ++ a0).map e_api_Node)))]⟩) ?_ ?_
    · refine OpsOk.cons rfl (OpOk.litT 5 rfl rfl Try.underlying25 sz27 zs27 rfl (rows := ([] : List T_api_Node).map e_api_Node) rfl rfl rfl rfl) ?_
      refine .cv (VOk.mv (d := (L 6 e_api_Node a0)) rfl rfl) rfl rfl ?_
      refine OpsOk.cons rfl (OpOk.appendL (e := e_api_Node) (xs := ([] : List T_api_Node)) (ys := a0) rfl Try.underlying25 elt27 rfl rfl rfl c2 rfl) ?_
      refine .cv (VOk.asg (d := (.sref 5)) rfl rfl) rfl rfl ?_
      exact .done (.rf rfl rfl)
    refine Ok.le (σ' := ⟨[(2, (.sref 5))], [(5, (.rows true 27 6 ((([] : List T_api_Node) ++ a0).map e_api_Node)))]⟩) (.rf rfl rfl) ?_
    refine Ok.ret ?_
    obtain rfl := Option.some.inj H
    exact ⟨.inl rfl, 5, rfl, rfl⟩

/-! watchbill/tree.Copy: function 28 -/
def tree_Copy.l0 (k : Nat) (self : T_api_Node → Option T_api_Node) (t3 : List T_api_Node) : Nat → Int → Str → Str → List T_api_Attr → Str → Int → Str → Str → List T_api_Attr → List T_api_Node → Str → List T_api_Node → Int → Option T_api_Node
  | 0, _, _, _, _, _, _, _, _, _, _, _, _, _ => none
  | m31 + 1, y1_0_6, y1_1_7, y1_2_8, y1_3_9, y1_5_10, y2_0_11, y2_1_12, y2_2_13, y2_3_14, y2_4_15, y2_5_16, y1024_17, x16_5 => (if (decide (x16_5 < (t3.length : Int))) = true then (if (0 : Int) ≤ x16_5 ∧ x16_5 < (y1024_17.length : Int) then ((self (rd y1024_17 x16_5)).bind fun (t33 : T_api_Node) => (if (0 : Int) ≤ x16_5 ∧ x16_5 < (y1024_17.length : Int) then tree_Copy.l0 k self t3 m31 y1_0_6 y1_1_7 y1_2_8 y1_3_9 y1_5_10 y2_0_11 y2_1_12 y2_2_13 y2_3_14 y2_4_15 y2_5_16 (y1024_17.set (Int.toNat x16_5) t33) (IntKind.i64.wrap (x16_5 + 1)) else none)) else none) else some (T_api_Node.mk y1_0_6 (T_api_Name.mk y1_1_7 y1_2_8) y1_3_9 y1024_17 y1_5_10))
def tree_Copy : Nat → T_api_Node → Option T_api_Node
  | 0, _ => none
  | k + 1, a0 => ((slices_Clone_45 a0.Attrs).bind fun (t1 : (List T_api_Attr)) => ((slices_Clone_46_o a0.Kids).bind fun (t3 : List T_api_Node) => tree_Copy.l0 k (tree_Copy k) t3 k a0.Kind a0.Name.Space a0.Name.Local t1 a0.Text 0 ([] : Str) ([] : Str) ([] : List T_api_Attr) ([] : List T_api_Node) ([] : Str) t3 0))
theorem tree_Copy.ok {k : Nat} {a0 : T_api_Node} {r : T_api_Node} (H : tree_Copy k a0 = some r) : Vx.Fn Try.prog 28 [(.agg (e_api_Node a0))] [] (.agg (e_api_Node r)) [] := by
  induction k generalizing a0 r with
  | zero => exact absurd H (by simp [tree_Copy])
  | succ k ih =>
    unfold tree_Copy at H
    refine Vx.Fn.of_okR Try.func28 rfl (Nat.le_of_ble_eq_true rfl) ?_
    refine Ok.seq ?_
    refine Ok.region (σ' := ⟨[(1, (.bref 1 0)), (2, (.bref 2 0))], [(1, (.box .ex (c_api_Node a0))), (2, (.box .ex [(.v (.int .i64 0)), (S ([] : Str)), (S ([] : Str)), (L 3 e_api_Attr ([] : List T_api_Attr)), (L 6 e_api_Node ([] : List T_api_Node)), (S ([] : Str))]))]⟩) ?_ ?_
    · refine OpsOk.cut1 0 (.agg [(.v (.int .i64 a0.Kind)), (S a0.Name.Space), (S a0.Name.Local), (L 3 e_api_Attr a0.Attrs), (L 6 e_api_Node a0.Kids), (S a0.Text)]) (DLe.of_eq (congrArg D.agg (e_api_Node_c _).symm)) ?_
      refine OpsOk.cons rfl (OpOk.box 1 (cells := [(.v (.int .i64 a0.Kind)), (S a0.Name.Space), (S a0.Name.Local), (L 3 e_api_Attr a0.Attrs), (L 6 e_api_Node a0.Kids), (S a0.Text)]) rfl rfl rfl rfl) ?_
      refine OpsOk.cons rfl (OpOk.alloc 2 [none, none, none, some 3, some 6, none] rfl zo27 rfl rfl) ?_
      exact .done (.rf rfl rfl)
    refine Ok.seq ?_
    obtain ⟨t1, h2, H⟩ := bindE H
    obtain ⟨t3, h4, H⟩ := bindE H
    refine Ok.le (σ' := ⟨[(1, (.bref 1 0)), (2, (.bref 2 0))], [(1, (.box .ex (c_api_Node a0))), (2, (.box .ex [(.v (.int .i64 0)), (S ([] : Str)), (S ([] : Str)), (L 3 e_api_Attr ([] : List T_api_Attr)), (L 6 e_api_Node ([] : List T_api_Node)), (S ([] : Str))]))]⟩) (.rf rfl rfl) ?_
    refine Ok.drawE2 (σ' := ⟨[(1, (.bref 1 0)), (2, (.bref 2 0))], [(1, (.box .ex [(.v (.int .i64 a0.Kind)), (S a0.Name.Space), (S a0.Name.Local), (L 3 e_api_Attr t1), (.sref 1024), (S a0.Text)])), (2, (.box .ex [(.v (.int .i64 0)), (S ([] : Str)), (S ([] : Str)), (L 3 e_api_Attr ([] : List T_api_Attr)), (L 6 e_api_Node ([] : List T_api_Node)), (S ([] : Str))])), (1024, (.rows true 27 6 (t3.map e_api_Node)))]⟩) [⟨true, [(1, (.bref 1 0))], [(1, (.box .ex (c_api_Node a0)))], (.bref 1 3), [], false, []⟩, ⟨true, [(5, (.bref 1 3))], [(1, (.box .ex (c_api_Node a0)))], (L 3 e_api_Attr a0.Attrs), [], false, []⟩, ⟨true, [(6, (L 3 e_api_Attr a0.Attrs))], [], (L 3 e_api_Attr t1), [], false, []⟩, ⟨true, [(1, (.bref 1 0))], [(1, (.box .ex (c_api_Node a0)))], (.bref 1 4), [], false, []⟩, ⟨true, [(8, (.bref 1 4))], [(1, (.box .ex (c_api_Node a0)))], (L 6 e_api_Node a0.Kids), [], false, []⟩, ⟨true, [(9, (L 6 e_api_Node a0.Kids))], [], (.sref 10), [(10, (.rows true 27 6 (t3.map e_api_Node)))], true, []⟩, ⟨true, [(1, (.bref 1 0))], [(1, (.box .ex (c_api_Node a0)))], (.bref 1 3), [], false, []⟩, ⟨true, [(11, (.bref 1 3)), (7, (L 3 e_api_Attr t1))], [(1, (.box .ex (c_api_Node a0)))], .junk, [(1, (.box .ex [(.v (.int .i64 a0.Kind)), (S a0.Name.Space), (S a0.Name.Local), (L 3 e_api_Attr t1), (L 6 e_api_Node a0.Kids), (S a0.Text)]))], false, []⟩, ⟨true, [(1, (.bref 1 0))], [(1, (.box .ex [(.v (.int .i64 a0.Kind)), (S a0.Name.Space), (S a0.Name.Local), (L 3 e_api_Attr t1), (L 6 e_api_Node a0.Kids), (S a0.Text)]))], (.bref 1 4), [], false, []⟩, ⟨true, [(12, (.bref 1 4)), (10, (.sref 10))], [(1, (.box .ex [(.v (.int .i64 a0.Kind)), (S a0.Name.Space), (S a0.Name.Local), (L 3 e_api_Attr t1), (L 6 e_api_Node a0.Kids), (S a0.Text)])), (10, (.rows true 27 6 (t3.map e_api_Node)))], .junk, [(1, (.box .ex [(.v (.int .i64 a0.Kind)), (S a0.Name.Space), (S a0.Name.Local), (L 3 e_api_Attr t1), (.sref 10), (S a0.Text)]))], false, []⟩] [[], [0], [1], [], [3], [4], [], [0, 1, 2, 3, 4, 6], [7], [0, 1, 3, 4, 5, 6, 7, 8]] mixed (by kernel_rfl) ?_ ?_
    · refine TxtE2.cons ⟨.same _, trivial⟩ ⟨rfl, trivial⟩ (It2.val rfl rfl (fun T hT => (VOk.g (VOk.to (VOk.fieldB rfl Try.underlying27 rfl sz24 rfl hT.1) rfl)))) ?_
      refine TxtE2.cons ⟨.same _, trivial⟩ ⟨rfl, trivial⟩ (It2.val rfl rfl (fun T hT => (VOk.g (VOk.loadB (d := (L 3 e_api_Attr a0.Attrs)) rfl Try.underlying24 rfl rfl hT.1 rfl)))) ?_
      refine TxtE2.cons ⟨.same _, trivial⟩ trivial (It2.val rfl rfl (fun T hT => (GOk.call rfl rfl cl45 rfl (slices_Clone_45.ok h2) rfl))) ?_
      refine TxtE2.cons ⟨.same _, trivial⟩ ⟨rfl, trivial⟩ (It2.val rfl rfl (fun T hT => (VOk.g (VOk.to (VOk.fieldB rfl Try.underlying27 rfl sz25 rfl hT.1) rfl)))) ?_
      refine TxtE2.cons ⟨.same _, trivial⟩ ⟨rfl, trivial⟩ (It2.val rfl rfl (fun T hT => (VOk.g (VOk.loadB (d := (L 6 e_api_Node a0.Kids)) rfl Try.underlying25 rfl rfl hT.1 rfl)))) ?_
      refine TxtE2.cons ⟨.same _, trivial⟩ trivial (It2.callO 10 (rows := t3.map e_api_Node) rfl rfl rfl cl46 rfl (slices_Clone_46_o.ok h4) rfl) ?_
      refine TxtE2.cons ⟨.same _, trivial⟩ ⟨rfl, trivial⟩ (It2.val rfl rfl (fun T hT => (VOk.g (VOk.to (VOk.fieldB rfl Try.underlying27 rfl sz24 rfl hT.1) rfl)))) ?_
      refine TxtE2.cons ⟨.same _, .same _, trivial⟩ ⟨rfl, trivial⟩ (It2.store rfl rfl sz24 rfl rfl rfl rfl rfl rfl rfl rfl) ?_
      refine TxtE2.cons ⟨.same _, trivial⟩ ⟨rfl, trivial⟩ (It2.val rfl rfl (fun T hT => (VOk.g (VOk.to (VOk.fieldB rfl Try.underlying27 rfl sz25 rfl hT.1) rfl)))) ?_
      refine TxtE2.cons ⟨.same _, .same _, trivial⟩ ⟨rfl, rfl, trivial⟩ (It2.store rfl rfl sz25 rfl rfl rfl rfl rfl rfl rfl rfl) ?_
      exact .doneS (SLe.trans (Le.s (.rf rfl rfl)) (SLe.ren 10 1024 rfl rfl))
    refine Ok.seq ?_
    refine Ok.seq ?_
    refine Ok.region (σ' := ⟨[(1, (.bref 1 0)), (2, (.bref 2 0)), (14, (.sref 1024)), (15, (.v (.int .i64 (t3.length : Int)))), (16, (.v (.int .i64 0)))], [(1, (.box .ex [(.v (.int .i64 a0.Kind)), (S a0.Name.Space), (S a0.Name.Local), (L 3 e_api_Attr t1), (.sref 1024), (S a0.Text)])), (2, (.box .ex [(.v (.int .i64 0)), (S ([] : Str)), (S ([] : Str)), (L 3 e_api_Attr ([] : List T_api_Attr)), (L 6 e_api_Node ([] : List T_api_Node)), (S ([] : Str))])), (1024, (.rows true 27 6 (t3.map e_api_Node)))]⟩) ?_ ?_
    · refine .cv (VOk.to (VOk.fieldB rfl Try.underlying27 rfl sz25 rfl rfl) rfl) rfl rfl ?_
      refine .cv (VOk.loadB (d := (.sref 1024)) rfl Try.underlying25 rfl rfl rfl rfl) rfl rfl ?_
      refine .cv (VOk.lenTL (e := e_api_Node) (xs := t3) rfl Try.underlying25 rfl rfl) rfl rfl ?_
      refine .cv (VOk.mv (d := (.v (.int .i64 0))) rfl rfl) rfl rfl ?_
      exact .done (.rf rfl rfl)
    refine Ok.block ?_
    refine Ok.le (σ' := ⟨[(1, (.bref 1 0)), (2, (.bref 2 0)), (14, (.sref 1024)), (15, (.v (.int .i64 (t3.length : Int)))), (16, (.v (.int .i64 0)))], [(1, (.box .ex [(.v (.int .i64 a0.Kind)), (S a0.Name.Space), (S a0.Name.Local), (L 3 e_api_Attr t1), (.sref 1024), (S a0.Text)])), (2, (.box .ex [(.v (.int .i64 0)), (S ([] : Str)), (S ([] : Str)), (L 3 e_api_Attr ([] : List T_api_Attr)), (L 6 e_api_Node ([] : List T_api_Node)), (S ([] : Str))])), (1024, (.rows true 27 6 (t3.map e_api_Node)))]⟩) (.rf rfl rfl) ?_
    refine Ok.loop (fun m31 σ => ∃ (y1_0_6 : Int) (y1_1_7 : Str) (y1_2_8 : Str) (y1_3_9 : List T_api_Attr) (y1_5_10 : Str) (y2_0_11 : Int) (y2_1_12 : Str) (y2_2_13 : Str) (y2_3_14 : List T_api_Attr) (y2_4_15 : List T_api_Node) (y2_5_16 : Str) (y1024_17 : List T_api_Node) (x16_5 : Int), σ = ⟨[(1, (.bref 1 0)), (2, (.bref 2 0)), (14, (.sref 1024)), (15, (.v (.int .i64 (t3.length : Int)))), (16, (.v (.int .i64 x16_5)))], [(1, (.box .ex [(.v (.int .i64 y1_0_6)), (S y1_1_7), (S y1_2_8), (L 3 e_api_Attr y1_3_9), (.sref 1024), (S y1_5_10)])), (2, (.box .ex [(.v (.int .i64 y2_0_11)), (S y2_1_12), (S y2_2_13), (L 3 e_api_Attr y2_3_14), (L 6 e_api_Node y2_4_15), (S y2_5_16)])), (1024, (.rows true 27 6 (y1024_17.map e_api_Node)))]⟩ ∧ tree_Copy.l0 k (tree_Copy k) t3 m31 y1_0_6 y1_1_7 y1_2_8 y1_3_9 y1_5_10 y2_0_11 y2_1_12 y2_2_13 y2_3_14 y2_4_15 y2_5_16 y1024_17 x16_5 = some r) k ⟨a0.Kind, a0.Name.Space, a0.Name.Local, t1, a0.Text, 0, ([] : Str), ([] : Str), ([] : List T_api_Attr), ([] : List T_api_Node), ([] : Str), t3, 0, rfl, H⟩ ?_
    rintro m31 σ ⟨y1_0_6, y1_1_7, y1_2_8, y1_3_9, y1_5_10, y2_0_11, y2_1_12, y2_2_13, y2_3_14, y2_4_15, y2_5_16, y1024_17, x16_5, rfl, H⟩
    cases m31 with
    | zero => exact absurd H (by simp [tree_Copy.l0])
    | succ m31 =>
      unfold tree_Copy.l0 at H
      refine Ok.seq ?_
      refine Ok.region (σ' := ⟨[(1, (.bref 1 0)), (2, (.bref 2 0)), (14, (.sref 1024)), (15, (.v (.int .i64 (t3.length : Int)))), (16, (.v (.int .i64 x16_5))), (17, (.v (.bool (decide (x16_5 < (t3.length : Int))))))], [(1, (.box .ex [(.v (.int .i64 y1_0_6)), (S y1_1_7), (S y1_2_8), (L 3 e_api_Attr y1_3_9), (.sref 1024), (S y1_5_10)])), (2, (.box .ex [(.v (.int .i64 y2_0_11)), (S y2_1_12), (S y2_2_13), (L 3 e_api_Attr y2_3_14), (L 6 e_api_Node y2_4_15), (S y2_5_16)])), (1024, (.rows true 27 6 (y1024_17.map e_api_Node)))]⟩) ?_ ?_
      · refine .cv (VOk.arith (op := .lss) (k := .i64) (a := x16_5) (b := (t3.length : Int)) rfl rfl rfl rfl) rfl rfl ?_
        exact .done (.rf rfl rfl)
      refine Ok.seq ?_
      refine Ok.test (b := (decide (x16_5 < (t3.length : Int)))) rfl (fun hb36 => ?_) (fun hb36 => ?_)
      · replace H := ifT H hb36
        refine Ok.skip ?_
        refine Ok.seq ?_
        refine Ok.block ?_
        refine Ok.seq ?_
        obtain ⟨c32, H⟩ := assertE H
        refine Ok.region (σ' := ⟨[(1, (.bref 1 0)), (2, (.bref 2 0)), (3, (.v (.int .i64 x16_5))), (4, (.bref 4 0)), (14, (.sref 1024)), (15, (.v (.int .i64 (t3.length : Int)))), (16, (.v (.int .i64 x16_5)))], [(1, (.box .ex [(.v (.int .i64 y1_0_6)), (S y1_1_7), (S y1_2_8), (L 3 e_api_Attr y1_3_9), (.sref 1024), (S y1_5_10)])), (2, (.box .ex [(.v (.int .i64 y2_0_11)), (S y2_1_12), (S y2_2_13), (L 3 e_api_Attr y2_3_14), (L 6 e_api_Node y2_4_15), (S y2_5_16)])), (4, (.box .ex (c_api_Node (rd y1024_17 x16_5)))), (1024, (.rows true 27 6 (y1024_17.map e_api_Node)))]⟩) ?_ ?_
        · refine .cv (VOk.mv (d := (.v (.int .i64 x16_5))) rfl rfl) rfl rfl ?_
          refine .cv (VOk.indexTL (e := e_api_Node) (xs := y1024_17) (i := x16_5) rfl Try.underlying25 sz27 rfl rfl rfl c32) rfl rfl ?_
          refine .cv (VOk.to (d' := (.agg (e_api_Node (rd y1024_17 x16_5)))) (.loadEAgg rfl Try.underlying27 rfl sz27 rfl rfl (row_rd c32) rfl) rfl) rfl rfl ?_
          refine OpsOk.cons rfl (OpOk.alloc 4 [none, none, none, some 3, some 6, none] rfl zo27 rfl rfl) ?_
          refine .cv (VOk.asg (d := (.v (.int .i64 x16_5))) rfl rfl) rfl rfl ?_
          refine OpsOk.cut1 20 (.agg [(.v (.int .i64 ((rd y1024_17 x16_5).Kind))), (S ((rd y1024_17 x16_5).Name.Space)), (S ((rd y1024_17 x16_5).Name.Local)), (L 3 e_api_Attr ((rd y1024_17 x16_5).Attrs)), (L 6 e_api_Node ((rd y1024_17 x16_5).Kids)), (S ((rd y1024_17 x16_5).Text))]) (DLe.of_eq (congrArg D.agg (e_api_Node_c _).symm)) ?_
          refine OpsOk.cons rfl (OpOk.to (σ2 := St.put ⟨_, (4, (.box .ex (c_api_Node (rd y1024_17 x16_5)))) :: _⟩ _ .junk) (.storeB rfl sz27 rfl rfl rfl rfl rfl rfl) rfl) ?_
          exact .done (.rf rfl rfl)
        obtain ⟨t33, h34, H⟩ := bindE H
        obtain ⟨c35, H⟩ := assertE H
        refine Ok.le (σ' := ⟨[(1, (.bref 1 0)), (2, (.bref 2 0)), (3, (.v (.int .i64 x16_5))), (4, (.bref 4 0)), (14, (.sref 1024)), (15, (.v (.int .i64 (t3.length : Int)))), (16, (.v (.int .i64 x16_5)))], [(1, (.box .ex [(.v (.int .i64 y1_0_6)), (S y1_1_7), (S y1_2_8), (L 3 e_api_Attr y1_3_9), (.sref 1024), (S y1_5_10)])), (2, (.box .ex [(.v (.int .i64 y2_0_11)), (S y2_1_12), (S y2_2_13), (L 3 e_api_Attr y2_3_14), (L 6 e_api_Node y2_4_15), (S y2_5_16)])), (4, (.box .ex (c_api_Node (rd y1024_17 x16_5)))), (1024, (.rows true 27 6 (y1024_17.map e_api_Node)))]⟩) (.rf rfl rfl) ?_
        refine Ok.drawE2 (σ' := ⟨[(1, (.bref 1 0)), (2, (.bref 2 0)), (14, (.sref 1024)), (15, (.v (.int .i64 (t3.length : Int)))), (16, (.v (.int .i64 x16_5)))], [(1, (.box .ex [(.v (.int .i64 y1_0_6)), (S y1_1_7), (S y1_2_8), (L 3 e_api_Attr y1_3_9), (.sref 1024), (S y1_5_10)])), (2, (.box .ex [(.v (.int .i64 y2_0_11)), (S y2_1_12), (S y2_2_13), (L 3 e_api_Attr y2_3_14), (L 6 e_api_Node y2_4_15), (S y2_5_16)])), (1024, (.rows true 27 6 ((y1024_17.set (Int.toNat x16_5) t33).map e_api_Node)))]⟩) [⟨true, [(1, (.bref 1 0))], [(1, (.box .ex [(.v (.int .i64 y1_0_6)), (S y1_1_7), (S y1_2_8), (L 3 e_api_Attr y1_3_9), (.sref 1024), (S y1_5_10)]))], (.bref 1 4), [], false, []⟩, ⟨true, [(21, (.bref 1 4))], [(1, (.box .ex [(.v (.int .i64 y1_0_6)), (S y1_1_7), (S y1_2_8), (L 3 e_api_Attr y1_3_9), (.sref 1024), (S y1_5_10)]))], (.sref 1024), [], false, []⟩, ⟨true, [(3, (.v (.int .i64 x16_5)))], [], (.v (.int .i64 x16_5)), [], false, []⟩, ⟨true, [(4, (.bref 4 0))], [(4, (.box .ex (c_api_Node (rd y1024_17 x16_5))))], (.agg (e_api_Node (rd y1024_17 x16_5))), [], false, []⟩, ⟨true, [(24, (.agg (e_api_Node (rd y1024_17 x16_5))))], [], (.agg (e_api_Node t33)), [], false, []⟩, ⟨true, [(22, (.sref 1024)), (23, (.v (.int .i64 x16_5)))], [(1024, (.rows true 27 6 (y1024_17.map e_api_Node)))], (.eref 1024 (Int.toNat x16_5) 0), [], false, []⟩, ⟨true, [(26, (.eref 1024 (Int.toNat x16_5) 0)), (25, (.agg (e_api_Node t33)))], [(1024, (.rows true 27 6 (y1024_17.map e_api_Node)))], .junk, [(1024, (.rows true 27 6 ((y1024_17.set (Int.toNat x16_5) t33).map e_api_Node)))], false, []⟩] [[], [0], [], [], [3], [1, 2], [4, 5]] mixed (by kernel_rfl) ?_ ?_
        · refine TxtE2.cons ⟨.same _, trivial⟩ ⟨rfl, trivial⟩ (It2.val rfl rfl (fun T hT => (VOk.g (VOk.to (VOk.fieldB rfl Try.underlying27 rfl sz25 rfl hT.1) rfl)))) ?_
          refine TxtE2.cons ⟨.same _, trivial⟩ ⟨rfl, trivial⟩ (It2.val rfl rfl (fun T hT => (VOk.g (VOk.loadB (d := (.sref 1024)) rfl Try.underlying25 rfl rfl hT.1 rfl)))) ?_
          refine TxtE2.cons ⟨.same _, trivial⟩ trivial (It2.val rfl rfl (fun T hT => (VOk.g (VOk.mv (d := (.v (.int .i64 x16_5))) rfl rfl)))) ?_
          refine TxtE2.cons ⟨.same _, trivial⟩ ⟨rfl, trivial⟩ (It2.val rfl rfl (fun T hT => (VOk.g (VOk.to (d' := (.agg (e_api_Node (rd y1024_17 x16_5)))) (.loadBAgg rfl Try.underlying27 rfl sz27 rfl hT.1 rfl) (congrArg D.agg (e_api_Node_c (rd y1024_17 x16_5)).symm))))) ?_
          refine TxtE2.cons ⟨.same _, trivial⟩ trivial (It2.val rfl rfl (fun T hT => (GOk.call rfl rfl cl28 rfl (@ih _ _ h34) rfl))) ?_
          refine TxtE2.cons ⟨.same _, .same _, trivial⟩ ⟨rfl, trivial⟩ (It2.val rfl rfl (fun T hT => (VOk.g (VOk.indexTL (e := e_api_Node) (xs := y1024_17) (i := x16_5) rfl Try.underlying25 sz27 rfl hT.1 rfl c35)))) ?_
          refine TxtE2.cons ⟨.same _, .same _, trivial⟩ ⟨rfl, trivial⟩ (It2.storeEL (e := e_api_Node) (xs := y1024_17) (i := x16_5) (y := t33) rfl rfl sz27 rfl rfl rfl c35 rfl rfl rfl rfl rfl rfl) ?_
          exact .done (.rf rfl rfl)
        refine Ok.region (σ' := ⟨[(1, (.bref 1 0)), (2, (.bref 2 0)), (14, (.sref 1024)), (15, (.v (.int .i64 (t3.length : Int)))), (16, (.v (.int .i64 (IntKind.i64.wrap (x16_5 + 1)))))], [(1, (.box .ex [(.v (.int .i64 y1_0_6)), (S y1_1_7), (S y1_2_8), (L 3 e_api_Attr y1_3_9), (.sref 1024), (S y1_5_10)])), (2, (.box .ex [(.v (.int .i64 y2_0_11)), (S y2_1_12), (S y2_2_13), (L 3 e_api_Attr y2_3_14), (L 6 e_api_Node y2_4_15), (S y2_5_16)])), (1024, (.rows true 27 6 ((y1024_17.set (Int.toNat x16_5) t33).map e_api_Node)))]⟩) ?_ ?_
        · refine .cv (VOk.arith (op := .add) (k := .i64) (a := x16_5) (b := 1) rfl rfl rfl rfl) rfl rfl ?_
          refine .cv (VOk.mv (d := (.v (.int .i64 (IntKind.i64.wrap (x16_5 + 1))))) rfl rfl) rfl rfl ?_
          exact .done (.rf rfl rfl)
        exact ⟨m31, Nat.lt_succ_self m31, y1_0_6, y1_1_7, y1_2_8, y1_3_9, y1_5_10, y2_0_11, y2_1_12, y2_2_13, y2_3_14, y2_4_15, y2_5_16, (y1024_17.set (Int.toNat x16_5) t33), (IntKind.i64.wrap (x16_5 + 1)), rfl, H⟩
      · replace H := ifF H hb36
        refine Ok.exit ?_
        refine Ok.seq ?_
        refine Ok.region (σ' := ⟨[(2, (.bref 2 0))], [(2, (.box .ex (c_api_Node (T_api_Node.mk y1_0_6 (T_api_Name.mk y1_1_7 y1_2_8) y1_3_9 y1024_17 y1_5_10))))]⟩) ?_ ?_
        · refine OpsOk.frzL 1024 (e := e_api_Node) (xs := y1024_17) rfl ?_
          refine .cv (VOk.to (d' := (.agg (e_api_Node (T_api_Node.mk y1_0_6 (T_api_Name.mk y1_1_7 y1_2_8) y1_3_9 y1024_17 y1_5_10)))) (.loadBAgg rfl Try.underlying27 rfl sz27 rfl rfl rfl) (congrArg D.agg (e_api_Node_c (T_api_Node.mk y1_0_6 (T_api_Name.mk y1_1_7 y1_2_8) y1_3_9 y1024_17 y1_5_10)).symm)) rfl rfl ?_
          refine OpsOk.cut1 28 (.agg [(.v (.int .i64 ((T_api_Node.mk y1_0_6 (T_api_Name.mk y1_1_7 y1_2_8) y1_3_9 y1024_17 y1_5_10).Kind))), (S ((T_api_Node.mk y1_0_6 (T_api_Name.mk y1_1_7 y1_2_8) y1_3_9 y1024_17 y1_5_10).Name.Space)), (S ((T_api_Node.mk y1_0_6 (T_api_Name.mk y1_1_7 y1_2_8) y1_3_9 y1024_17 y1_5_10).Name.Local)), (L 3 e_api_Attr ((T_api_Node.mk y1_0_6 (T_api_Name.mk y1_1_7 y1_2_8) y1_3_9 y1024_17 y1_5_10).Attrs)), (L 6 e_api_Node ((T_api_Node.mk y1_0_6 (T_api_Name.mk y1_1_7 y1_2_8) y1_3_9 y1024_17 y1_5_10).Kids)), (S ((T_api_Node.mk y1_0_6 (T_api_Name.mk y1_1_7 y1_2_8) y1_3_9 y1024_17 y1_5_10).Text))]) (DLe.of_eq (congrArg D.agg (e_api_Node_c _).symm)) ?_
          refine OpsOk.cons rfl (OpOk.to (σ2 := St.put ⟨_, (2, (.box .ex (c_api_Node (T_api_Node.mk y1_0_6 (T_api_Name.mk y1_1_7 y1_2_8) y1_3_9 y1024_17 y1_5_10)))) :: _⟩ _ .junk) (.storeB rfl sz27 rfl rfl rfl rfl rfl rfl) rfl) ?_
          exact .done (.rf rfl rfl)
        refine Ok.ret ?_
        obtain rfl := Option.some.inj H
        exact ⟨.inl rfl, ⟨_, (.cons (.cell (VOk.to (d' := (.agg (e_api_Node (T_api_Node.mk y1_0_6 (T_api_Name.mk y1_1_7 y1_2_8) y1_3_9 y1024_17 y1_5_10)))) (.loadBAgg rfl Try.underlying27 rfl sz27 rfl rfl rfl) (congrArg D.agg (e_api_Node_c (T_api_Node.mk y1_0_6 (T_api_Name.mk y1_1_7 y1_2_8) y1_3_9 y1024_17 y1_5_10)).symm))) .nil), rfl⟩, trivial⟩

/-! watchbill/path.At: function 8 -/
def path_At.l0 (k : Nat) (a1 : List Int) : Nat → Int → Str → Str → List T_api_Attr → List T_api_Node → Str → Int → Str → Str → List T_api_Attr → List T_api_Node → Str → Int → Option (T_api_Node × Bool)
  | 0, _, _, _, _, _, _, _, _, _, _, _, _, _ => none
  | m27 + 1, y2_0_2, y2_1_3, y2_2_4, y2_3_5, y2_4_6, y2_5_7, y4_0_8, y4_1_9, y4_2_10, y4_3_11, y4_4_12, y4_5_13, x10_1 => (if (decide (x10_1 < (a1.length : Int))) = true then (if (0 : Int) ≤ x10_1 ∧ x10_1 < (a1.length : Int) then ((path_kid (T_api_Node.mk y2_0_2 (T_api_Name.mk y2_1_3 y2_2_4) y2_3_5 y2_4_6 y2_5_7) (rd a1 x10_1)).bind fun (t29 : Bool) => (if (!t29) = true then some ((T_api_Node.mk 0 (T_api_Name.mk ([] : Str) ([] : Str)) ([] : List T_api_Attr) ([] : List T_api_Node) ([] : Str)), false) else (if (0 : Int) ≤ (rd a1 x10_1) ∧ (rd a1 x10_1) < (y2_4_6.length : Int) then path_At.l0 k a1 m27 ((rd y2_4_6 (rd a1 x10_1)).Kind) ((rd y2_4_6 (rd a1 x10_1)).Name.Space) ((rd y2_4_6 (rd a1 x10_1)).Name.Local) ((rd y2_4_6 (rd a1 x10_1)).Attrs) ((rd y2_4_6 (rd a1 x10_1)).Kids) ((rd y2_4_6 (rd a1 x10_1)).Text) y4_0_8 y4_1_9 y4_2_10 y4_3_11 y4_4_12 y4_5_13 (IntKind.i64.wrap (x10_1 + 1)) else none))) else none) else ((tree_Copy k (T_api_Node.mk y2_0_2 (T_api_Name.mk y2_1_3 y2_2_4) y2_3_5 y2_4_6 y2_5_7)).bind fun (t33 : T_api_Node) => some (t33, true)))
def path_At (k : Nat) (a0 : T_api_Node) (a1 : List Int) : Option (T_api_Node × Bool) := path_At.l0 k a1 k a0.Kind a0.Name.Space a0.Name.Local a0.Attrs a0.Kids a0.Text 0 ([] : Str) ([] : Str) ([] : List T_api_Attr) ([] : List T_api_Node) ([] : Str) 0
theorem path_At.ok {k : Nat} {a0 : T_api_Node} {a1 : List Int} {r : T_api_Node × Bool} (H : path_At k a0 a1 = some r) : Vx.Fn Try.prog 8 [(.agg (e_api_Node a0)), (L 1 (eI .i64) a1)] [] (.tup [(.agg (e_api_Node r.1)), (.v (.bool r.2))]) [] := by
  unfold path_At at H
  refine Vx.Fn.of_okR Try.func8 rfl (Nat.le_of_ble_eq_true rfl) ?_
  refine Ok.seq ?_
  refine Ok.region (σ' := ⟨[(1, (L 1 (eI .i64) a1)), (2, (.bref 2 0)), (4, (.bref 4 0))], [(2, (.box .ex (c_api_Node a0))), (4, (.box .ex [(.v (.int .i64 0)), (S ([] : Str)), (S ([] : Str)), (L 3 e_api_Attr ([] : List T_api_Attr)), (L 6 e_api_Node ([] : List T_api_Node)), (S ([] : Str))]))]⟩) ?_ ?_
  · refine OpsOk.cut1 0 (.agg [(.v (.int .i64 a0.Kind)), (S a0.Name.Space), (S a0.Name.Local), (L 3 e_api_Attr a0.Attrs), (L 6 e_api_Node a0.Kids), (S a0.Text)]) (DLe.of_eq (congrArg D.agg (e_api_Node_c _).symm)) ?_
    refine OpsOk.cons rfl (OpOk.box 2 (cells := [(.v (.int .i64 a0.Kind)), (S a0.Name.Space), (S a0.Name.Local), (L 3 e_api_Attr a0.Attrs), (L 6 e_api_Node a0.Kids), (S a0.Text)]) rfl rfl rfl rfl) ?_
    refine OpsOk.cons rfl (OpOk.alloc 4 [none, none, none, some 3, some 6, none] rfl zo27 rfl rfl) ?_
    refine .cv (VOk.asg (d := (.v (.bool false))) rfl rfl) rfl rfl ?_
    exact .done (.rf rfl rfl)
  refine Ok.seq ?_
  refine Ok.seq ?_
  refine Ok.region (σ' := ⟨[(2, (.bref 2 0)), (4, (.bref 4 0)), (8, (L 1 (eI .i64) a1)), (9, (.v (.int .i64 (a1.length : Int)))), (10, (.v (.int .i64 0)))], [(2, (.box .ex (c_api_Node a0))), (4, (.box .ex [(.v (.int .i64 0)), (S ([] : Str)), (S ([] : Str)), (L 3 e_api_Attr ([] : List T_api_Attr)), (L 6 e_api_Node ([] : List T_api_Node)), (S ([] : Str))]))]⟩) ?_ ?_
  · refine .cv (VOk.mv (d := (L 1 (eI .i64) a1)) rfl rfl) rfl rfl ?_
    refine .cv (VOk.lenL (e := (eI .i64)) (xs := a1) rfl Try.underlying28 rfl) rfl rfl ?_
    refine .cv (VOk.mv (d := (.v (.int .i64 0))) rfl rfl) rfl rfl ?_
    exact .done (.rf rfl rfl)
  refine Ok.block ?_
  refine Ok.le (σ' := ⟨[(2, (.bref 2 0)), (4, (.bref 4 0)), (8, (L 1 (eI .i64) a1)), (9, (.v (.int .i64 (a1.length : Int)))), (10, (.v (.int .i64 0)))], [(2, (.box .ex (c_api_Node a0))), (4, (.box .ex [(.v (.int .i64 0)), (S ([] : Str)), (S ([] : Str)), (L 3 e_api_Attr ([] : List T_api_Attr)), (L 6 e_api_Node ([] : List T_api_Node)), (S ([] : Str))]))]⟩) (.rf rfl rfl) ?_
  refine Ok.loop (fun m27 σ => ∃ (y2_0_2 : Int) (y2_1_3 : Str) (y2_2_4 : Str) (y2_3_5 : List T_api_Attr) (y2_4_6 : List T_api_Node) (y2_5_7 : Str) (y4_0_8 : Int) (y4_1_9 : Str) (y4_2_10 : Str) (y4_3_11 : List T_api_Attr) (y4_4_12 : List T_api_Node) (y4_5_13 : Str) (x10_1 : Int), σ = ⟨[(2, (.bref 2 0)), (4, (.bref 4 0)), (8, (L 1 (eI .i64) a1)), (9, (.v (.int .i64 (a1.length : Int)))), (10, (.v (.int .i64 x10_1)))], [(2, (.box .ex [(.v (.int .i64 y2_0_2)), (S y2_1_3), (S y2_2_4), (L 3 e_api_Attr y2_3_5), (L 6 e_api_Node y2_4_6), (S y2_5_7)])), (4, (.box .ex [(.v (.int .i64 y4_0_8)), (S y4_1_9), (S y4_2_10), (L 3 e_api_Attr y4_3_11), (L 6 e_api_Node y4_4_12), (S y4_5_13)]))]⟩ ∧ path_At.l0 k a1 m27 y2_0_2 y2_1_3 y2_2_4 y2_3_5 y2_4_6 y2_5_7 y4_0_8 y4_1_9 y4_2_10 y4_3_11 y4_4_12 y4_5_13 x10_1 = some r) k ⟨a0.Kind, a0.Name.Space, a0.Name.Local, a0.Attrs, a0.Kids, a0.Text, 0, ([] : Str), ([] : Str), ([] : List T_api_Attr), ([] : List T_api_Node), ([] : Str), 0, rfl, H⟩ ?_
  rintro m27 σ ⟨y2_0_2, y2_1_3, y2_2_4, y2_3_5, y2_4_6, y2_5_7, y4_0_8, y4_1_9, y4_2_10, y4_3_11, y4_4_12, y4_5_13, x10_1, rfl, H⟩
  cases m27 with
  | zero => exact absurd H (by simp [path_At.l0])
  | succ m27 =>
    unfold path_At.l0 at H
    refine Ok.seq ?_
    refine Ok.region (σ' := ⟨[(2, (.bref 2 0)), (4, (.bref 4 0)), (8, (L 1 (eI .i64) a1)), (9, (.v (.int .i64 (a1.length : Int)))), (10, (.v (.int .i64 x10_1))), (11, (.v (.bool (decide (x10_1 < (a1.length : Int))))))], [(2, (.box .ex [(.v (.int .i64 y2_0_2)), (S y2_1_3), (S y2_2_4), (L 3 e_api_Attr y2_3_5), (L 6 e_api_Node y2_4_6), (S y2_5_7)])), (4, (.box .ex [(.v (.int .i64 y4_0_8)), (S y4_1_9), (S y4_2_10), (L 3 e_api_Attr y4_3_11), (L 6 e_api_Node y4_4_12), (S y4_5_13)]))]⟩) ?_ ?_
    · refine .cv (VOk.arith (op := .lss) (k := .i64) (a := x10_1) (b := (a1.length : Int)) rfl rfl rfl rfl) rfl rfl ?_
      exact .done (.rf rfl rfl)
    refine Ok.seq ?_
    refine Ok.test (b := (decide (x10_1 < (a1.length : Int)))) rfl (fun hb35 => ?_) (fun hb35 => ?_)
    · replace H := ifT H hb35
      refine Ok.skip ?_
      refine Ok.seq ?_
      refine Ok.block ?_
      refine Ok.seq ?_
      obtain ⟨c28, H⟩ := assertE H
      refine Ok.region (σ' := ⟨[(2, (.bref 2 0)), (4, (.bref 4 0)), (7, (.v (.int .i64 (rd a1 x10_1)))), (8, (L 1 (eI .i64) a1)), (9, (.v (.int .i64 (a1.length : Int)))), (10, (.v (.int .i64 x10_1)))], [(2, (.box .ex [(.v (.int .i64 y2_0_2)), (S y2_1_3), (S y2_2_4), (L 3 e_api_Attr y2_3_5), (L 6 e_api_Node y2_4_6), (S y2_5_7)])), (4, (.box .ex [(.v (.int .i64 y4_0_8)), (S y4_1_9), (S y4_2_10), (L 3 e_api_Attr y4_3_11), (L 6 e_api_Node y4_4_12), (S y4_5_13)]))]⟩) ?_ ?_
      · refine .cv (VOk.indexL (sz := 1) (e := (eI .i64)) (xs := a1) (i := x10_1) rfl Try.underlying28 sz3 rfl rfl c28) rfl rfl ?_
        refine .cv (VOk.loadFp (d := (.v (.int .i64 (rd a1 x10_1)))) rfl Try.underlying3 rfl rfl rfl) rfl rfl ?_
        refine .cv (VOk.asg (d := (.v (.int .i64 (rd a1 x10_1)))) rfl rfl) rfl rfl ?_
        exact .done (.rf rfl rfl)
      refine Ok.seq ?_
      refine Ok.seq ?_
      obtain ⟨t29, h30, H⟩ := bindE H
      refine Ok.region (σ' := ⟨[(2, (.bref 2 0)), (4, (.bref 4 0)), (7, (.v (.int .i64 (rd a1 x10_1)))), (8, (L 1 (eI .i64) a1)), (9, (.v (.int .i64 (a1.length : Int)))), (10, (.v (.int .i64 x10_1))), (17, (.v (.bool (!t29))))], [(2, (.box .ex [(.v (.int .i64 y2_0_2)), (S y2_1_3), (S y2_2_4), (L 3 e_api_Attr y2_3_5), (L 6 e_api_Node y2_4_6), (S y2_5_7)])), (4, (.box .ex [(.v (.int .i64 y4_0_8)), (S y4_1_9), (S y4_2_10), (L 3 e_api_Attr y4_3_11), (L 6 e_api_Node y4_4_12), (S y4_5_13)]))]⟩) ?_ ?_
      · refine .cv (VOk.to (d' := (.agg (e_api_Node (T_api_Node.mk y2_0_2 (T_api_Name.mk y2_1_3 y2_2_4) y2_3_5 y2_4_6 y2_5_7)))) (.loadBAgg rfl Try.underlying27 rfl sz27 rfl rfl rfl) (congrArg D.agg (e_api_Node_c (T_api_Node.mk y2_0_2 (T_api_Name.mk y2_1_3 y2_2_4) y2_3_5 y2_4_6 y2_5_7)).symm)) rfl rfl ?_
        refine .cv (VOk.mv (d := (.v (.int .i64 (rd a1 x10_1)))) rfl rfl) rfl rfl ?_
        refine .cg (GOk.call rfl rfl cl27 rfl (path_kid.ok h30) rfl) rfl rfl ?_
        refine .cv (VOk.not (b := t29) rfl rfl) rfl rfl ?_
        exact .done (.rf rfl rfl)
      refine Ok.test (b := (!t29)) rfl (fun hb32 => ?_) (fun hb32 => ?_)
      · replace H := ifT H hb32
        refine Ok.seq ?_
        refine Ok.region (σ' := ⟨[(4, (.bref 4 0)), (5, (.v (.bool false)))], [(4, (.box .ex (c_api_Node (T_api_Node.mk 0 (T_api_Name.mk ([] : Str) ([] : Str)) ([] : List T_api_Attr) ([] : List T_api_Node) ([] : Str)))))]⟩) ?_ ?_
        · refine .cv (VOk.to (d' := (.agg (e_api_Node (T_api_Node.mk 0 (T_api_Name.mk ([] : Str) ([] : Str)) ([] : List T_api_Attr) ([] : List T_api_Node) ([] : Str))))) (.build [none, none, none, some 3, some 6, none] [(0, 1), (1, 2), (3, 1), (4, 1), (5, 1)] rfl Try.underlying27 (fa27 Try.underlying27) zo27 rfl rfl) (congrArg D.agg (e_api_Node_c (T_api_Node.mk 0 (T_api_Name.mk ([] : Str) ([] : Str)) ([] : List T_api_Attr) ([] : List T_api_Node) ([] : Str))).symm)) rfl rfl ?_
          refine OpsOk.cut1 18 (.agg [(.v (.int .i64 ((T_api_Node.mk 0 (T_api_Name.mk ([] : Str) ([] : Str)) ([] : List T_api_Attr) ([] : List T_api_Node) ([] : Str)).Kind))), (S ((T_api_Node.mk 0 (T_api_Name.mk ([] : Str) ([] : Str)) ([] : List T_api_Attr) ([] : List T_api_Node) ([] : Str)).Name.Space)), (S ((T_api_Node.mk 0 (T_api_Name.mk ([] : Str) ([] : Str)) ([] : List T_api_Attr) ([] : List T_api_Node) ([] : Str)).Name.Local)), (L 3 e_api_Attr ((T_api_Node.mk 0 (T_api_Name.mk ([] : Str) ([] : Str)) ([] : List T_api_Attr) ([] : List T_api_Node) ([] : Str)).Attrs)), (L 6 e_api_Node ((T_api_Node.mk 0 (T_api_Name.mk ([] : Str) ([] : Str)) ([] : List T_api_Attr) ([] : List T_api_Node) ([] : Str)).Kids)), (S ((T_api_Node.mk 0 (T_api_Name.mk ([] : Str) ([] : Str)) ([] : List T_api_Attr) ([] : List T_api_Node) ([] : Str)).Text))]) (DLe.of_eq (congrArg D.agg (e_api_Node_c _).symm)) ?_
          refine OpsOk.cons rfl (OpOk.to (σ2 := St.put ⟨_, (4, (.box .ex (c_api_Node (T_api_Node.mk 0 (T_api_Name.mk ([] : Str) ([] : Str)) ([] : List T_api_Attr) ([] : List T_api_Node) ([] : Str))))) :: _⟩ _ .junk) (.storeB rfl sz27 rfl rfl rfl rfl rfl rfl) rfl) ?_
          refine .cv (VOk.asg (d := (.v (.bool false))) rfl rfl) rfl rfl ?_
          exact .done (.rf rfl rfl)
        refine Ok.ret ?_
        obtain rfl := Option.some.inj H
        exact ⟨.inl rfl, ⟨_, (.cons (.cell (VOk.to (d' := (.agg (e_api_Node (T_api_Node.mk 0 (T_api_Name.mk ([] : Str) ([] : Str)) ([] : List T_api_Attr) ([] : List T_api_Node) ([] : Str))))) (.loadBAgg rfl Try.underlying27 rfl sz27 rfl rfl rfl) (congrArg D.agg (e_api_Node_c (T_api_Node.mk 0 (T_api_Name.mk ([] : Str) ([] : Str)) ([] : List T_api_Attr) ([] : List T_api_Node) ([] : Str))).symm))) (.cons (.tmp rfl) .nil)), rfl⟩, trivial⟩
      · replace H := ifF H hb32
        refine Ok.skip ?_
        obtain ⟨c31, H⟩ := assertE H
        refine Ok.region (σ' := ⟨[(2, (.bref 2 0)), (4, (.bref 4 0)), (8, (L 1 (eI .i64) a1)), (9, (.v (.int .i64 (a1.length : Int)))), (10, (.v (.int .i64 x10_1)))], [(2, (.box .ex (c_api_Node (rd y2_4_6 (rd a1 x10_1))))), (4, (.box .ex [(.v (.int .i64 y4_0_8)), (S y4_1_9), (S y4_2_10), (L 3 e_api_Attr y4_3_11), (L 6 e_api_Node y4_4_12), (S y4_5_13)]))]⟩) ?_ ?_
        · refine .cv (VOk.to (VOk.fieldB rfl Try.underlying27 rfl sz25 rfl rfl) rfl) rfl rfl ?_
          refine .cv (VOk.loadB (d := (L 6 e_api_Node y2_4_6)) rfl Try.underlying25 rfl rfl rfl rfl) rfl rfl ?_
          refine .cv (VOk.mv (d := (.v (.int .i64 (rd a1 x10_1)))) rfl rfl) rfl rfl ?_
          refine .cv (VOk.indexL (sz := 6) (e := e_api_Node) (xs := y2_4_6) (i := (rd a1 x10_1)) rfl Try.underlying25 sz27 rfl rfl c31) rfl rfl ?_
          refine .cv (VOk.to (d' := (.agg (e_api_Node (rd y2_4_6 (rd a1 x10_1))))) (.loadFpAgg rfl Try.underlying27 rfl sz27 rfl rfl) rfl) rfl rfl ?_
          refine OpsOk.cut1 23 (.agg [(.v (.int .i64 ((rd y2_4_6 (rd a1 x10_1)).Kind))), (S ((rd y2_4_6 (rd a1 x10_1)).Name.Space)), (S ((rd y2_4_6 (rd a1 x10_1)).Name.Local)), (L 3 e_api_Attr ((rd y2_4_6 (rd a1 x10_1)).Attrs)), (L 6 e_api_Node ((rd y2_4_6 (rd a1 x10_1)).Kids)), (S ((rd y2_4_6 (rd a1 x10_1)).Text))]) (DLe.of_eq (congrArg D.agg (e_api_Node_c _).symm)) ?_
          refine OpsOk.cons rfl (OpOk.to (σ2 := St.put ⟨_, (2, (.box .ex (c_api_Node (rd y2_4_6 (rd a1 x10_1))))) :: _⟩ _ .junk) (.storeB rfl sz27 rfl rfl rfl rfl rfl rfl) rfl) ?_
          exact .done (.rf rfl rfl)
        refine Ok.region (σ' := ⟨[(2, (.bref 2 0)), (4, (.bref 4 0)), (8, (L 1 (eI .i64) a1)), (9, (.v (.int .i64 (a1.length : Int)))), (10, (.v (.int .i64 (IntKind.i64.wrap (x10_1 + 1)))))], [(2, (.box .ex (c_api_Node (rd y2_4_6 (rd a1 x10_1))))), (4, (.box .ex [(.v (.int .i64 y4_0_8)), (S y4_1_9), (S y4_2_10), (L 3 e_api_Attr y4_3_11), (L 6 e_api_Node y4_4_12), (S y4_5_13)]))]⟩) ?_ ?_
        · refine .cv (VOk.arith (op := .add) (k := .i64) (a := x10_1) (b := 1) rfl rfl rfl rfl) rfl rfl ?_
          refine .cv (VOk.mv (d := (.v (.int .i64 (IntKind.i64.wrap (x10_1 + 1))))) rfl rfl) rfl rfl ?_
          exact .done (.rf rfl rfl)
        exact ⟨m27, Nat.lt_succ_self m27, ((rd y2_4_6 (rd a1 x10_1)).Kind), ((rd y2_4_6 (rd a1 x10_1)).Name.Space), ((rd y2_4_6 (rd a1 x10_1)).Name.Local), ((rd y2_4_6 (rd a1 x10_1)).Attrs), ((rd y2_4_6 (rd a1 x10_1)).Kids), ((rd y2_4_6 (rd a1 x10_1)).Text), y4_0_8, y4_1_9, y4_2_10, y4_3_11, y4_4_12, y4_5_13, (IntKind.i64.wrap (x10_1 + 1)), rfl, H⟩
    · replace H := ifF H hb35
      refine Ok.exit ?_
      refine Ok.seq ?_
      obtain ⟨t33, h34, H⟩ := bindE H
      refine Ok.region (σ' := ⟨[(4, (.bref 4 0)), (5, (.v (.bool true)))], [(4, (.box .ex (c_api_Node t33)))]⟩) ?_ ?_
      · refine .cv (VOk.to (d' := (.agg (e_api_Node (T_api_Node.mk y2_0_2 (T_api_Name.mk y2_1_3 y2_2_4) y2_3_5 y2_4_6 y2_5_7)))) (.loadBAgg rfl Try.underlying27 rfl sz27 rfl rfl rfl) (congrArg D.agg (e_api_Node_c (T_api_Node.mk y2_0_2 (T_api_Name.mk y2_1_3 y2_2_4) y2_3_5 y2_4_6 y2_5_7)).symm)) rfl rfl ?_
        refine .cg (GOk.call rfl rfl cl28 rfl (tree_Copy.ok h34) rfl) rfl rfl ?_
        refine OpsOk.cut1 26 (.agg [(.v (.int .i64 t33.Kind)), (S t33.Name.Space), (S t33.Name.Local), (L 3 e_api_Attr t33.Attrs), (L 6 e_api_Node t33.Kids), (S t33.Text)]) (DLe.of_eq (congrArg D.agg (e_api_Node_c _).symm)) ?_
        refine OpsOk.cons rfl (OpOk.to (σ2 := St.put ⟨_, (4, (.box .ex (c_api_Node t33))) :: _⟩ _ .junk) (.storeB rfl sz27 rfl rfl rfl rfl rfl rfl) rfl) ?_
        refine .cv (VOk.asg (d := (.v (.bool true))) rfl rfl) rfl rfl ?_
        exact .done (.rf rfl rfl)
      refine Ok.ret ?_
      obtain rfl := Option.some.inj H
      exact ⟨.inl rfl, ⟨_, (.cons (.cell (VOk.to (d' := (.agg (e_api_Node t33))) (.loadBAgg rfl Try.underlying27 rfl sz27 rfl rfl rfl) (congrArg D.agg (e_api_Node_c t33).symm))) (.cons (.tmp rfl) .nil)), rfl⟩, trivial⟩

/-! watchbill/path.Places: function 10 -/
def path_Places.l1 (k : Nat) (c0 : List (List Int) → Int → Option (List (List Int))) (a0 : T_api_Node) (x15_1 : Int) (t7 : (List (List Int))) : Nat → List (List Int) → Int → Option (List (List Int))
  | 0, _, _ => none
  | m13 + 1, y11_10, x23_9 => (if (decide (x23_9 < (t7.length : Int))) = true then (if (0 : Int) ≤ x23_9 ∧ x23_9 < (t7.length : Int) then (if (([x15_1] : List Int).length + (rd t7 x23_9).length) * 8 ≤ 140737488355328 then (if (y11_10.length + ([(([x15_1] : List Int) ++ (rd t7 x23_9))] : List (List Int)).length) * 24 ≤ 140737488355328 then path_Places.l1 k c0 a0 x15_1 t7 m13 (y11_10 ++ ([(([x15_1] : List Int) ++ (rd t7 x23_9))] : List (List Int))) (IntKind.i64.wrap (x23_9 + 1)) else none) else none) else none) else c0 y11_10 (IntKind.i64.wrap (x15_1 + 1)))
def path_Places.l0 (k : Nat) (self : T_api_Node → Option (List (List Int))) (a0 : T_api_Node) : Nat → List (List Int) → Int → Option (List (List Int))
  | 0, _, _ => none
  | m5 + 1, y11_2, x15_1 => (if (decide (x15_1 < (a0.Kids.length : Int))) = true then (if (0 : Int) ≤ x15_1 ∧ x15_1 < (a0.Kids.length : Int) then ((self (rd a0.Kids x15_1)).bind fun (t7 : (List (List Int))) => path_Places.l1 k (path_Places.l0 k self a0 m5) a0 x15_1 t7 k y11_2 0) else none) else some y11_2)
def path_Places : Nat → T_api_Node → Option (List (List Int))
  | 0, _ => none
  | k + 1, a0 => (if (a0.Kind != 1) = true then some ([] : List (List Int)) else path_Places.l0 k (path_Places k) a0 k ([([] : List Int)] : List (List Int)) 0)
theorem path_Places.ok {k : Nat} {a0 : T_api_Node} {r : (List (List Int))} (H : path_Places k a0 = some r) : Vx.Fn Try.prog 10 [(.agg (e_api_Node a0))] [] (L 1 (eL 1 (eI .i64)) r) [] := by
  induction k generalizing a0 r with
  | zero => exact absurd H (by simp [path_Places])
  | succ k ih =>
    unfold path_Places at H
    refine Vx.Fn.of_okR Try.func10 rfl (Nat.le_of_ble_eq_true rfl) ?_
    refine Ok.seq ?_
    refine Ok.region (σ' := ⟨[(1, (.bref 1 0))], [(1, (.box .ex (c_api_Node a0)))]⟩) ?_ ?_
    · refine OpsOk.cut1 0 (.agg [(.v (.int .i64 a0.Kind)), (S a0.Name.Space), (S a0.Name.Local), (L 3 e_api_Attr a0.Attrs), (L 6 e_api_Node a0.Kids), (S a0.Text)]) (DLe.of_eq (congrArg D.agg (e_api_Node_c _).symm)) ?_
      refine OpsOk.cons rfl (OpOk.box 1 (cells := [(.v (.int .i64 a0.Kind)), (S a0.Name.Space), (S a0.Name.Local), (L 3 e_api_Attr a0.Attrs), (L 6 e_api_Node a0.Kids), (S a0.Text)]) rfl rfl rfl rfl) ?_
      refine .cv (VOk.asg (d := (.v (.slice none 0 0))) rfl rfl) rfl rfl ?_
      exact .done (.rf rfl rfl)
    refine Ok.seq ?_
    refine Ok.seq ?_
    refine Ok.region (σ' := ⟨[(1, (.bref 1 0)), (10, (.v (.bool (a0.Kind != 1))))], [(1, (.box .ex (c_api_Node a0)))]⟩) ?_ ?_
    · refine .cv (VOk.to (VOk.fieldB rfl Try.underlying27 rfl sz3 rfl rfl) rfl) rfl rfl ?_
      refine .cv (VOk.loadB (d := (.v (.int .i64 a0.Kind))) rfl Try.underlying3 rfl rfl rfl rfl) rfl rfl ?_
      refine .cv (VOk.arith (op := .neq) (k := .i64) (a := a0.Kind) (b := 1) rfl rfl rfl rfl) rfl rfl ?_
      exact .done (.rf rfl rfl)
    refine Ok.test (b := (a0.Kind != 1)) rfl (fun hb19 => ?_) (fun hb19 => ?_)
    · replace H := ifT H hb19
      refine Ok.seq ?_
      refine Ok.region (σ' := ⟨[(2, (.v (.slice none 0 0)))], []⟩) ?_ ?_
      · refine .cv (VOk.asg (d := (.v (.slice none 0 0))) rfl rfl) rfl rfl ?_
        exact .done (.rf rfl rfl)
      refine Ok.le (σ' := ⟨[(2, (L 1 (eL 1 (eI .i64)) ([] : List (List Int))))], []⟩) (.mk ⟨.nil _, trivial⟩ trivial) ?_
      refine Ok.ret ?_
      obtain rfl := Option.some.inj H
      exact ⟨.inl rfl, ⟨_, (.cons (.tmp rfl) .nil), rfl⟩, trivial⟩
    · replace H := ifF H hb19
      refine Ok.skip ?_
      refine Ok.seq ?_
      refine Ok.region (σ' := ⟨[(1, (.bref 1 0)), (3, (.sref 11))], [(1, (.box .ex (c_api_Node a0))), (11, (.rows true 28 1 (([([] : List Int)] : List (List Int)).map (eL 1 (eI .i64)))))]⟩) ?_ ?_
      · refine OpsOk.cons rfl (OpOk.litTE 11 rfl rfl Try.underlying34 sz28 zs28 rfl (nilEv_le 1 _) (rows := ([([] : List Int)] : List (List Int)).map (eL 1 (eI .i64))) rfl rfl rfl rfl) ?_
        refine .cv (VOk.asg (d := (.sref 11)) rfl rfl) rfl rfl ?_
        exact .done (.rf rfl rfl)
      refine Ok.seq ?_
      refine Ok.seq ?_
      refine Ok.region (σ' := ⟨[(3, (.sref 11)), (13, (L 6 e_api_Node a0.Kids)), (14, (.v (.int .i64 (a0.Kids.length : Int)))), (15, (.v (.int .i64 0)))], [(11, (.rows true 28 1 (([([] : List Int)] : List (List Int)).map (eL 1 (eI .i64)))))]⟩) ?_ ?_
      · refine .cv (VOk.to (VOk.fieldB rfl Try.underlying27 rfl sz25 rfl rfl) rfl) rfl rfl ?_
        refine .cv (VOk.loadB (d := (L 6 e_api_Node a0.Kids)) rfl Try.underlying25 rfl rfl rfl rfl) rfl rfl ?_
        refine .cv (VOk.lenL (e := e_api_Node) (xs := a0.Kids) rfl Try.underlying25 rfl) rfl rfl ?_
        refine .cv (VOk.mv (d := (.v (.int .i64 0))) rfl rfl) rfl rfl ?_
        exact .done (.rf rfl rfl)
      refine Ok.block ?_
      refine Ok.le (σ' := ⟨[(3, (.sref 11)), (13, (L 6 e_api_Node a0.Kids)), (14, (.v (.int .i64 (a0.Kids.length : Int)))), (15, (.v (.int .i64 0)))], [(11, (.rows true 28 1 (([([] : List Int)] : List (List Int)).map (eL 1 (eI .i64)))))]⟩) (.rf rfl rfl) ?_
      refine Ok.loop (fun m5 σ => ∃ (y11_2 : List (List Int)) (x15_1 : Int), σ = ⟨[(3, (.sref 11)), (13, (L 6 e_api_Node a0.Kids)), (14, (.v (.int .i64 (a0.Kids.length : Int)))), (15, (.v (.int .i64 x15_1)))], [(11, (.rows true 28 1 (y11_2.map (eL 1 (eI .i64)))))]⟩ ∧ path_Places.l0 k (path_Places k) a0 m5 y11_2 x15_1 = some r) k ⟨([([] : List Int)] : List (List Int)), 0, rfl, H⟩ ?_
      rintro m5 σ ⟨y11_2, x15_1, rfl, H⟩
      cases m5 with
      | zero => exact absurd H (by simp [path_Places.l0])
      | succ m5 =>
        unfold path_Places.l0 at H
        refine Ok.seq ?_
        refine Ok.region (σ' := ⟨[(3, (.sref 11)), (13, (L 6 e_api_Node a0.Kids)), (14, (.v (.int .i64 (a0.Kids.length : Int)))), (15, (.v (.int .i64 x15_1))), (16, (.v (.bool (decide (x15_1 < (a0.Kids.length : Int))))))], [(11, (.rows true 28 1 (y11_2.map (eL 1 (eI .i64)))))]⟩) ?_ ?_
        · refine .cv (VOk.arith (op := .lss) (k := .i64) (a := x15_1) (b := (a0.Kids.length : Int)) rfl rfl rfl rfl) rfl rfl ?_
          exact .done (.rf rfl rfl)
        refine Ok.seq ?_
        refine Ok.test (b := (decide (x15_1 < (a0.Kids.length : Int)))) rfl (fun hb18 => ?_) (fun hb18 => ?_)
        · replace H := ifT H hb18
          refine Ok.skip ?_
          refine Ok.seq ?_
          refine Ok.block ?_
          refine Ok.seq ?_
          obtain ⟨c6, H⟩ := assertE H
          refine Ok.region (σ' := ⟨[(3, (.sref 11)), (4, (.v (.int .i64 x15_1))), (5, (.bref 5 0)), (13, (L 6 e_api_Node a0.Kids)), (14, (.v (.int .i64 (a0.Kids.length : Int)))), (15, (.v (.int .i64 x15_1)))], [(5, (.box .ex (c_api_Node (rd a0.Kids x15_1)))), (11, (.rows true 28 1 (y11_2.map (eL 1 (eI .i64)))))]⟩) ?_ ?_
          · refine .cv (VOk.mv (d := (.v (.int .i64 x15_1))) rfl rfl) rfl rfl ?_
            refine .cv (VOk.indexL (sz := 6) (e := e_api_Node) (xs := a0.Kids) (i := x15_1) rfl Try.underlying25 sz27 rfl rfl c6) rfl rfl ?_
            refine .cv (VOk.to (d' := (.agg (e_api_Node (rd a0.Kids x15_1)))) (.loadFpAgg rfl Try.underlying27 rfl sz27 rfl rfl) rfl) rfl rfl ?_
            refine OpsOk.cons rfl (OpOk.alloc 5 [none, none, none, some 3, some 6, none] rfl zo27 rfl rfl) ?_
            refine .cv (VOk.asg (d := (.v (.int .i64 x15_1))) rfl rfl) rfl rfl ?_
            refine OpsOk.cut1 19 (.agg [(.v (.int .i64 ((rd a0.Kids x15_1).Kind))), (S ((rd a0.Kids x15_1).Name.Space)), (S ((rd a0.Kids x15_1).Name.Local)), (L 3 e_api_Attr ((rd a0.Kids x15_1).Attrs)), (L 6 e_api_Node ((rd a0.Kids x15_1).Kids)), (S ((rd a0.Kids x15_1).Text))]) (DLe.of_eq (congrArg D.agg (e_api_Node_c _).symm)) ?_
            refine OpsOk.cons rfl (OpOk.to (σ2 := St.put ⟨_, (5, (.box .ex (c_api_Node (rd a0.Kids x15_1)))) :: _⟩ _ .junk) (.storeB rfl sz27 rfl rfl rfl rfl rfl rfl) rfl) ?_
            exact .done (.rf rfl rfl)
          refine Ok.seq ?_
          obtain ⟨t7, h8, H⟩ := bindE H
          refine Ok.region (σ' := ⟨[(3, (.sref 11)), (4, (.v (.int .i64 x15_1))), (13, (L 6 e_api_Node a0.Kids)), (14, (.v (.int .i64 (a0.Kids.length : Int)))), (15, (.v (.int .i64 x15_1))), (21, (L 1 (eL 1 (eI .i64)) t7)), (22, (.v (.int .i64 (t7.length : Int)))), (23, (.v (.int .i64 0)))], [(11, (.rows true 28 1 (y11_2.map (eL 1 (eI .i64)))))]⟩) ?_ ?_
          · refine .cv (VOk.to (d' := (.agg (e_api_Node (rd a0.Kids x15_1)))) (.loadBAgg rfl Try.underlying27 rfl sz27 rfl rfl rfl) (congrArg D.agg (e_api_Node_c (rd a0.Kids x15_1)).symm)) rfl rfl ?_
            refine .cg (GOk.call rfl rfl cl10 rfl (@ih _ _ h8) rfl) rfl rfl ?_
            refine .cv (VOk.lenL (e := (eL 1 (eI .i64))) (xs := t7) rfl Try.underlying34 rfl) rfl rfl ?_
            refine .cv (VOk.mv (d := (.v (.int .i64 0))) rfl rfl) rfl rfl ?_
            exact .done (.rf rfl rfl)
          refine Ok.block ?_
          refine Ok.le (σ' := ⟨[(3, (.sref 11)), (4, (.v (.int .i64 x15_1))), (13, (L 6 e_api_Node a0.Kids)), (14, (.v (.int .i64 (a0.Kids.length : Int)))), (15, (.v (.int .i64 x15_1))), (21, (L 1 (eL 1 (eI .i64)) t7)), (22, (.v (.int .i64 (t7.length : Int)))), (23, (.v (.int .i64 0)))], [(11, (.rows true 28 1 (y11_2.map (eL 1 (eI .i64)))))]⟩) (.rf rfl rfl) ?_
          refine Ok.loop (fun m13 σ => ∃ (y11_10 : List (List Int)) (x23_9 : Int), σ = ⟨[(3, (.sref 11)), (4, (.v (.int .i64 x15_1))), (13, (L 6 e_api_Node a0.Kids)), (14, (.v (.int .i64 (a0.Kids.length : Int)))), (15, (.v (.int .i64 x15_1))), (21, (L 1 (eL 1 (eI .i64)) t7)), (22, (.v (.int .i64 (t7.length : Int)))), (23, (.v (.int .i64 x23_9)))], [(11, (.rows true 28 1 (y11_10.map (eL 1 (eI .i64)))))]⟩ ∧ path_Places.l1 k (path_Places.l0 k (path_Places k) a0 m5) a0 x15_1 t7 m13 y11_10 x23_9 = some r) k ⟨y11_2, 0, rfl, H⟩ ?_
          rintro m13 σ ⟨y11_10, x23_9, rfl, H⟩
          cases m13 with
          | zero => exact absurd H (by simp [path_Places.l1])
          | succ m13 =>
            unfold path_Places.l1 at H
            refine Ok.seq ?_
            refine Ok.region (σ' := ⟨[(3, (.sref 11)), (4, (.v (.int .i64 x15_1))), (13, (L 6 e_api_Node a0.Kids)), (14, (.v (.int .i64 (a0.Kids.length : Int)))), (15, (.v (.int .i64 x15_1))), (21, (L 1 (eL 1 (eI .i64)) t7)), (22, (.v (.int .i64 (t7.length : Int)))), (23, (.v (.int .i64 x23_9))), (24, (.v (.bool (decide (x23_9 < (t7.length : Int))))))], [(11, (.rows true 28 1 (y11_10.map (eL 1 (eI .i64)))))]⟩) ?_ ?_
            · refine .cv (VOk.arith (op := .lss) (k := .i64) (a := x23_9) (b := (t7.length : Int)) rfl rfl rfl rfl) rfl rfl ?_
              exact .done (.rf rfl rfl)
            refine Ok.seq ?_
            refine Ok.test (b := (decide (x23_9 < (t7.length : Int)))) rfl (fun hb17 => ?_) (fun hb17 => ?_)
            · replace H := ifT H hb17
              refine Ok.skip ?_
              refine Ok.seq ?_
              refine Ok.block ?_
              refine Ok.seq ?_
              obtain ⟨c14, H⟩ := assertE H
              refine Ok.region (σ' := ⟨[(3, (.sref 11)), (4, (.v (.int .i64 x15_1))), (7, (L 1 (eI .i64) (rd t7 x23_9))), (13, (L 6 e_api_Node a0.Kids)), (14, (.v (.int .i64 (a0.Kids.length : Int)))), (15, (.v (.int .i64 x15_1))), (21, (L 1 (eL 1 (eI .i64)) t7)), (22, (.v (.int .i64 (t7.length : Int)))), (23, (.v (.int .i64 x23_9)))], [(11, (.rows true 28 1 (y11_10.map (eL 1 (eI .i64)))))]⟩) ?_ ?_
              · refine .cv (VOk.indexL (sz := 1) (e := (eL 1 (eI .i64))) (xs := t7) (i := x23_9) rfl Try.underlying34 sz28 rfl rfl c14) rfl rfl ?_
                refine .cv (VOk.loadFp (d := (L 1 (eI .i64) (rd t7 x23_9))) rfl Try.underlying28 rfl rfl rfl) rfl rfl ?_
                refine .cv (VOk.asg (d := (L 1 (eI .i64) (rd t7 x23_9))) rfl rfl) rfl rfl ?_
                exact .done (.rf rfl rfl)
              obtain ⟨c15, H⟩ := assertE H
              obtain ⟨c16, H⟩ := assertE H
              refine Ok.region (σ' := ⟨[(3, (.sref 11)), (4, (.v (.int .i64 x15_1))), (13, (L 6 e_api_Node a0.Kids)), (14, (.v (.int .i64 (a0.Kids.length : Int)))), (15, (.v (.int .i64 x15_1))), (21, (L 1 (eL 1 (eI .i64)) t7)), (22, (.v (.int .i64 (t7.length : Int)))), (23, (.v (.int .i64 x23_9)))], [(11, (.rows true 28 1 ((y11_10 ++ ([(([x15_1] : List Int) ++ (rd t7 x23_9))] : List (List Int))).map (eL 1 (eI .i64)))))]⟩) ?_ ?_
              · refine .cv (VOk.mv (d := (.sref 11)) rfl rfl) rfl rfl ?_
                refine .cv (VOk.mv (d := (.v (.int .i64 x15_1))) rfl rfl) rfl rfl ?_
                refine .cg (GOk.to (d' := (.clist 1 (List.map (eI .i64) ([x15_1] : List Int)))) (GOk.litC rfl Try.underlying28 sz3 zs3 rfl rfl rfl rfl) rfl) rfl rfl ?_
                refine .cv (VOk.mv (d := (L 1 (eI .i64) (rd t7 x23_9))) rfl rfl) rfl rfl ?_
                refine .cg (GOk.appendC (e := (eI .i64)) (xs := ([x15_1] : List Int)) (ys := (rd t7 x23_9)) rfl Try.underlying28 elt3 (.same _) rfl c15) rfl rfl ?_
                refine .cg (GOk.to (d' := (L 1 (eL 1 (eI .i64)) ([(([x15_1] : List Int) ++ (rd t7 x23_9))] : List (List Int)))) (GOk.lit rfl Try.underlying34 sz28 zs28 rfl rfl rfl rfl) rfl) rfl rfl ?_
                refine OpsOk.cons rfl (OpOk.appendL (e := (eL 1 (eI .i64))) (xs := y11_10) (ys := ([(([x15_1] : List Int) ++ (rd t7 x23_9))] : List (List Int))) rfl Try.underlying34 elt28 rfl rfl rfl c16 rfl) ?_
                refine .cv (VOk.asg (d := (.sref 11)) rfl rfl) rfl rfl ?_
                exact .done (.rf rfl rfl)
              refine Ok.region (σ' := ⟨[(3, (.sref 11)), (4, (.v (.int .i64 x15_1))), (13, (L 6 e_api_Node a0.Kids)), (14, (.v (.int .i64 (a0.Kids.length : Int)))), (15, (.v (.int .i64 x15_1))), (21, (L 1 (eL 1 (eI .i64)) t7)), (22, (.v (.int .i64 (t7.length : Int)))), (23, (.v (.int .i64 (IntKind.i64.wrap (x23_9 + 1)))))], [(11, (.rows true 28 1 ((y11_10 ++ ([(([x15_1] : List Int) ++ (rd t7 x23_9))] : List (List Int))).map (eL 1 (eI .i64)))))]⟩) ?_ ?_
              · refine .cv (VOk.arith (op := .add) (k := .i64) (a := x23_9) (b := 1) rfl rfl rfl rfl) rfl rfl ?_
                refine .cv (VOk.mv (d := (.v (.int .i64 (IntKind.i64.wrap (x23_9 + 1))))) rfl rfl) rfl rfl ?_
                exact .done (.rf rfl rfl)
              exact ⟨m13, Nat.lt_succ_self m13, (y11_10 ++ ([(([x15_1] : List Int) ++ (rd t7 x23_9))] : List (List Int))), (IntKind.i64.wrap (x23_9 + 1)), rfl, H⟩
            · replace H := ifF H hb17
              refine Ok.exit ?_
              refine Ok.region (σ' := ⟨[(3, (.sref 11)), (13, (L 6 e_api_Node a0.Kids)), (14, (.v (.int .i64 (a0.Kids.length : Int)))), (15, (.v (.int .i64 (IntKind.i64.wrap (x15_1 + 1)))))], [(11, (.rows true 28 1 (y11_10.map (eL 1 (eI .i64)))))]⟩) ?_ ?_
              · refine .cv (VOk.arith (op := .add) (k := .i64) (a := x15_1) (b := 1) rfl rfl rfl rfl) rfl rfl ?_
                refine .cv (VOk.mv (d := (.v (.int .i64 (IntKind.i64.wrap (x15_1 + 1))))) rfl rfl) rfl rfl ?_
                exact .done (.rf rfl rfl)
              exact ⟨m5, Nat.lt_succ_self m5, y11_10, (IntKind.i64.wrap (x15_1 + 1)), rfl, H⟩
        · replace H := ifF H hb18
          refine Ok.exit ?_
          refine Ok.seq ?_
          refine Ok.region (σ' := ⟨[(2, (.sref 11))], [(11, (.rows true 28 1 (y11_2.map (eL 1 (eI .i64)))))]⟩) ?_ ?_
          · refine .cv (VOk.mv (d := (.sref 11)) rfl rfl) rfl rfl ?_
            refine .cv (VOk.asg (d := (.sref 11)) rfl rfl) rfl rfl ?_
            exact .done (.rf rfl rfl)
          refine Ok.frzL 11 (e := (eL 1 (eI .i64))) (xs := y11_2) rfl ?_
          refine Ok.ret ?_
          obtain rfl := Option.some.inj H
          exact ⟨.inl rfl, ⟨_, (.cons (.tmp rfl) .nil), rfl⟩, trivial⟩

/-! watchbill/watchbilllaw04.weigh: function 26 -/
def watchbilllaw04_weigh.l1 (k : Nat) (self : T_api_Node → Int → Option Int) (a1 : Int) : Nat → Int → Str → Str → List T_api_Attr → List T_api_Node → Str → Int → Int → Option Int
  | 0, _, _, _, _, _, _, _, _ => none
  | m39 + 1, y2_0_25, y2_1_26, y2_2_27, y2_3_28, y2_4_29, y2_5_30, x5_23, x7_24 => (if ((decide (x7_24 < (y2_4_29.length : Int))) && (decide (x5_23 ≤ a1))) = true then (if (0 : Int) ≤ x7_24 ∧ x7_24 < (y2_4_29.length : Int) then ((self (rd y2_4_29 x7_24) (IntKind.i64.wrap (a1 - x5_23))).bind fun (t43 : Int) => watchbilllaw04_weigh.l1 k self a1 m39 y2_0_25 y2_1_26 y2_2_27 y2_3_28 y2_4_29 y2_5_30 (IntKind.i64.wrap (x5_23 + t43)) (IntKind.i64.wrap (x7_24 + 1))) else none) else some x5_23)
def watchbilllaw04_weigh.l0 (k : Nat) (self : T_api_Node → Int → Option Int) (a1 : Int) : Nat → Int → Str → Str → List T_api_Attr → List T_api_Node → Str → Int → Int → Option Int
  | 0, _, _, _, _, _, _, _, _ => none
  | m17 + 1, y2_0_3, y2_1_4, y2_2_5, y2_3_6, y2_4_7, y2_5_8, x5_1, x6_2 => (if ((decide (x6_2 < (y2_3_6.length : Int))) && (decide (x5_1 ≤ a1))) = true then (if (0 : Int) ≤ x6_2 ∧ x6_2 < (y2_3_6.length : Int) then (if (0 : Int) ≤ x6_2 ∧ x6_2 < (y2_3_6.length : Int) then (if (0 : Int) ≤ x6_2 ∧ x6_2 < (y2_3_6.length : Int) then watchbilllaw04_weigh.l0 k self a1 m17 y2_0_3 y2_1_4 y2_2_5 y2_3_6 y2_4_7 y2_5_8 (IntKind.i64.wrap ((IntKind.i64.wrap ((IntKind.i64.wrap (x5_1 + (if a1 < ((((rd y2_3_6 x6_2).Name).Space).length : Int) then a1 else ((((rd y2_3_6 x6_2).Name).Space).length : Int)))) + (if a1 < ((((rd y2_3_6 x6_2).Name).Local).length : Int) then a1 else ((((rd y2_3_6 x6_2).Name).Local).length : Int)))) + (if a1 < (((rd y2_3_6 x6_2).Value).length : Int) then a1 else (((rd y2_3_6 x6_2).Value).length : Int)))) (IntKind.i64.wrap (x6_2 + 1)) else none) else none) else none) else watchbilllaw04_weigh.l1 k self a1 k y2_0_3 y2_1_4 y2_2_5 y2_3_6 y2_4_7 y2_5_8 x5_1 0)
def watchbilllaw04_weigh : Nat → T_api_Node → Int → Option Int
  | 0, _, _ => none
  | k + 1, a0, a1 => watchbilllaw04_weigh.l0 k (watchbilllaw04_weigh k) a1 k a0.Kind a0.Name.Space a0.Name.Local a0.Attrs a0.Kids a0.Text (IntKind.i64.wrap ((IntKind.i64.wrap ((IntKind.i64.wrap ((IntKind.i64.wrap (1 + (if a1 < (a0.Text.length : Int) then a1 else (a0.Text.length : Int)))) + (if a1 < (a0.Name.Space.length : Int) then a1 else (a0.Name.Space.length : Int)))) + (if a1 < (a0.Name.Local.length : Int) then a1 else (a0.Name.Local.length : Int)))) + (if a1 < (a0.Attrs.length : Int) then a1 else (a0.Attrs.length : Int)))) 0
theorem watchbilllaw04_weigh.ok {k : Nat} {a0 : T_api_Node} {a1 : Int} {r : Int} (H : watchbilllaw04_weigh k a0 a1 = some r) : Vx.Fn Try.prog 26 [(.agg (e_api_Node a0)), (.v (.int .i64 a1))] [] (.v (.int .i64 r)) [] := by
  induction k generalizing a0 a1 r with
  | zero => exact absurd H (by simp [watchbilllaw04_weigh])
  | succ k ih =>
    unfold watchbilllaw04_weigh at H
    refine Vx.Fn.of_okR Try.func26 rfl (Nat.le_of_ble_eq_true rfl) ?_
    refine Ok.seq ?_
    refine Ok.region (σ' := ⟨[(1, (.v (.int .i64 a1))), (2, (.bref 2 0))], [(2, (.box .ex (c_api_Node a0)))]⟩) ?_ ?_
    · refine OpsOk.cut1 0 (.agg [(.v (.int .i64 a0.Kind)), (S a0.Name.Space), (S a0.Name.Local), (L 3 e_api_Attr a0.Attrs), (L 6 e_api_Node a0.Kids), (S a0.Text)]) (DLe.of_eq (congrArg D.agg (e_api_Node_c _).symm)) ?_
      refine OpsOk.cons rfl (OpOk.box 2 (cells := [(.v (.int .i64 a0.Kind)), (S a0.Name.Space), (S a0.Name.Local), (L 3 e_api_Attr a0.Attrs), (L 6 e_api_Node a0.Kids), (S a0.Text)]) rfl rfl rfl rfl) ?_
      refine .cv (VOk.asg (d := (.v (.int .i64 0))) rfl rfl) rfl rfl ?_
      exact .done (.rf rfl rfl)
    refine Ok.seq ?_
    refine Ok.region (σ' := ⟨[(1, (.v (.int .i64 a1))), (2, (.bref 2 0)), (5, (.v (.int .i64 (IntKind.i64.wrap ((IntKind.i64.wrap ((IntKind.i64.wrap ((IntKind.i64.wrap (1 + (if a1 < (a0.Text.length : Int) then a1 else (a0.Text.length : Int)))) + (if a1 < (a0.Name.Space.length : Int) then a1 else (a0.Name.Space.length : Int)))) + (if a1 < (a0.Name.Local.length : Int) then a1 else (a0.Name.Local.length : Int)))) + (if a1 < (a0.Attrs.length : Int) then a1 else (a0.Attrs.length : Int)))))))], [(2, (.box .ex (c_api_Node a0)))]⟩) ?_ ?_
    · refine .cv (VOk.to (VOk.fieldB rfl Try.underlying27 rfl sz9 rfl rfl) rfl) rfl rfl ?_
      refine .cv (VOk.loadB (d := (S a0.Text)) rfl Try.underlying9 rfl rfl rfl rfl) rfl rfl ?_
      refine .cv (VOk.lenStr (s := a0.Text) rfl Try.underlying9 rfl) rfl rfl ?_
      refine .cv (VOk.mv (d := (.v (.int .i64 a1))) rfl rfl) rfl rfl ?_
      refine .cv (VOk.min2 (a := (a0.Text.length : Int)) (b := a1) rfl rfl rfl) rfl rfl ?_
      refine .cv (VOk.arith (op := .add) (k := .i64) (a := 1) (b := (if a1 < (a0.Text.length : Int) then a1 else (a0.Text.length : Int))) rfl rfl rfl rfl) rfl rfl ?_
      refine .cv (VOk.to (VOk.fieldB rfl Try.underlying27 rfl sz23 rfl rfl) rfl) rfl rfl ?_
      refine .cv (VOk.to (VOk.fieldB rfl Try.underlying23 rfl sz9 rfl rfl) rfl) rfl rfl ?_
      refine .cv (VOk.loadB (d := (S a0.Name.Space)) rfl Try.underlying9 rfl rfl rfl rfl) rfl rfl ?_
      refine .cv (VOk.lenStr (s := a0.Name.Space) rfl Try.underlying9 rfl) rfl rfl ?_
      refine .cv (VOk.mv (d := (.v (.int .i64 a1))) rfl rfl) rfl rfl ?_
      refine .cv (VOk.min2 (a := (a0.Name.Space.length : Int)) (b := a1) rfl rfl rfl) rfl rfl ?_
      refine .cv (VOk.arith (op := .add) (k := .i64) (a := (IntKind.i64.wrap (1 + (if a1 < (a0.Text.length : Int) then a1 else (a0.Text.length : Int))))) (b := (if a1 < (a0.Name.Space.length : Int) then a1 else (a0.Name.Space.length : Int))) rfl rfl rfl rfl) rfl rfl ?_
      refine .cv (VOk.to (VOk.fieldB rfl Try.underlying27 rfl sz23 rfl rfl) rfl) rfl rfl ?_
      refine .cv (VOk.to (VOk.fieldB rfl Try.underlying23 rfl sz9 rfl rfl) rfl) rfl rfl ?_
      refine .cv (VOk.loadB (d := (S a0.Name.Local)) rfl Try.underlying9 rfl rfl rfl rfl) rfl rfl ?_
      refine .cv (VOk.lenStr (s := a0.Name.Local) rfl Try.underlying9 rfl) rfl rfl ?_
      refine .cv (VOk.mv (d := (.v (.int .i64 a1))) rfl rfl) rfl rfl ?_
      refine .cv (VOk.min2 (a := (a0.Name.Local.length : Int)) (b := a1) rfl rfl rfl) rfl rfl ?_
      refine .cv (VOk.arith (op := .add) (k := .i64) (a := (IntKind.i64.wrap ((IntKind.i64.wrap (1 + (if a1 < (a0.Text.length : Int) then a1 else (a0.Text.length : Int)))) + (if a1 < (a0.Name.Space.length : Int) then a1 else (a0.Name.Space.length : Int))))) (b := (if a1 < (a0.Name.Local.length : Int) then a1 else (a0.Name.Local.length : Int))) rfl rfl rfl rfl) rfl rfl ?_
      refine .cv (VOk.to (VOk.fieldB rfl Try.underlying27 rfl sz24 rfl rfl) rfl) rfl rfl ?_
      refine .cv (VOk.loadB (d := (L 3 e_api_Attr a0.Attrs)) rfl Try.underlying24 rfl rfl rfl rfl) rfl rfl ?_
      refine .cv (VOk.lenL (e := e_api_Attr) (xs := a0.Attrs) rfl Try.underlying24 rfl) rfl rfl ?_
      refine .cv (VOk.mv (d := (.v (.int .i64 a1))) rfl rfl) rfl rfl ?_
      refine .cv (VOk.min2 (a := (a0.Attrs.length : Int)) (b := a1) rfl rfl rfl) rfl rfl ?_
      refine .cv (VOk.arith (op := .add) (k := .i64) (a := (IntKind.i64.wrap ((IntKind.i64.wrap ((IntKind.i64.wrap (1 + (if a1 < (a0.Text.length : Int) then a1 else (a0.Text.length : Int)))) + (if a1 < (a0.Name.Space.length : Int) then a1 else (a0.Name.Space.length : Int)))) + (if a1 < (a0.Name.Local.length : Int) then a1 else (a0.Name.Local.length : Int))))) (b := (if a1 < (a0.Attrs.length : Int) then a1 else (a0.Attrs.length : Int))) rfl rfl rfl rfl) rfl rfl ?_
      refine .cv (VOk.asg (d := (.v (.int .i64 (IntKind.i64.wrap ((IntKind.i64.wrap ((IntKind.i64.wrap ((IntKind.i64.wrap (1 + (if a1 < (a0.Text.length : Int) then a1 else (a0.Text.length : Int)))) + (if a1 < (a0.Name.Space.length : Int) then a1 else (a0.Name.Space.length : Int)))) + (if a1 < (a0.Name.Local.length : Int) then a1 else (a0.Name.Local.length : Int)))) + (if a1 < (a0.Attrs.length : Int) then a1 else (a0.Attrs.length : Int))))))) rfl rfl) rfl rfl ?_
      exact .done (.rf rfl rfl)
    refine Ok.seq ?_
    refine Ok.seq ?_
    refine Ok.region (σ' := ⟨[(1, (.v (.int .i64 a1))), (2, (.bref 2 0)), (5, (.v (.int .i64 (IntKind.i64.wrap ((IntKind.i64.wrap ((IntKind.i64.wrap ((IntKind.i64.wrap (1 + (if a1 < (a0.Text.length : Int) then a1 else (a0.Text.length : Int)))) + (if a1 < (a0.Name.Space.length : Int) then a1 else (a0.Name.Space.length : Int)))) + (if a1 < (a0.Name.Local.length : Int) then a1 else (a0.Name.Local.length : Int)))) + (if a1 < (a0.Attrs.length : Int) then a1 else (a0.Attrs.length : Int))))))), (6, (.v (.int .i64 0)))], [(2, (.box .ex (c_api_Node a0)))]⟩) ?_ ?_
    · refine .cv (VOk.asg (d := (.v (.int .i64 0))) rfl rfl) rfl rfl ?_
      exact .done (.rf rfl rfl)
    refine Ok.block ?_
    refine Ok.le (σ' := ⟨[(1, (.v (.int .i64 a1))), (2, (.bref 2 0)), (5, (.v (.int .i64 (IntKind.i64.wrap ((IntKind.i64.wrap ((IntKind.i64.wrap ((IntKind.i64.wrap (1 + (if a1 < (a0.Text.length : Int) then a1 else (a0.Text.length : Int)))) + (if a1 < (a0.Name.Space.length : Int) then a1 else (a0.Name.Space.length : Int)))) + (if a1 < (a0.Name.Local.length : Int) then a1 else (a0.Name.Local.length : Int)))) + (if a1 < (a0.Attrs.length : Int) then a1 else (a0.Attrs.length : Int))))))), (6, (.v (.int .i64 0)))], [(2, (.box .ex (c_api_Node a0)))]⟩) (.rf rfl rfl) ?_
    refine Ok.loop (fun m17 σ => ∃ (y2_0_3 : Int) (y2_1_4 : Str) (y2_2_5 : Str) (y2_3_6 : List T_api_Attr) (y2_4_7 : List T_api_Node) (y2_5_8 : Str) (x5_1 : Int) (x6_2 : Int), σ = ⟨[(1, (.v (.int .i64 a1))), (2, (.bref 2 0)), (5, (.v (.int .i64 x5_1))), (6, (.v (.int .i64 x6_2)))], [(2, (.box .ex [(.v (.int .i64 y2_0_3)), (S y2_1_4), (S y2_2_5), (L 3 e_api_Attr y2_3_6), (L 6 e_api_Node y2_4_7), (S y2_5_8)]))]⟩ ∧ watchbilllaw04_weigh.l0 k (watchbilllaw04_weigh k) a1 m17 y2_0_3 y2_1_4 y2_2_5 y2_3_6 y2_4_7 y2_5_8 x5_1 x6_2 = some r) k ⟨a0.Kind, a0.Name.Space, a0.Name.Local, a0.Attrs, a0.Kids, a0.Text, (IntKind.i64.wrap ((IntKind.i64.wrap ((IntKind.i64.wrap ((IntKind.i64.wrap (1 + (if a1 < (a0.Text.length : Int) then a1 else (a0.Text.length : Int)))) + (if a1 < (a0.Name.Space.length : Int) then a1 else (a0.Name.Space.length : Int)))) + (if a1 < (a0.Name.Local.length : Int) then a1 else (a0.Name.Local.length : Int)))) + (if a1 < (a0.Attrs.length : Int) then a1 else (a0.Attrs.length : Int)))), 0, rfl, H⟩ ?_
    rintro m17 σ ⟨y2_0_3, y2_1_4, y2_2_5, y2_3_6, y2_4_7, y2_5_8, x5_1, x6_2, rfl, H⟩
    cases m17 with
    | zero => exact absurd H (by simp [watchbilllaw04_weigh.l0])
    | succ m17 =>
      unfold watchbilllaw04_weigh.l0 at H
      refine Ok.seq ?_
      refine Ok.seq ?_
      refine Ok.region (σ' := ⟨[(1, (.v (.int .i64 a1))), (2, (.bref 2 0)), (5, (.v (.int .i64 x5_1))), (6, (.v (.int .i64 x6_2))), (43, (.v (.bool ((decide (x6_2 < (y2_3_6.length : Int))) && (decide (x5_1 ≤ a1))))))], [(2, (.box .ex [(.v (.int .i64 y2_0_3)), (S y2_1_4), (S y2_2_5), (L 3 e_api_Attr y2_3_6), (L 6 e_api_Node y2_4_7), (S y2_5_8)]))]⟩) ?_ ?_
      · refine .cv (VOk.mv (d := (.v (.int .i64 x6_2))) rfl rfl) rfl rfl ?_
        refine .cv (VOk.to (VOk.fieldB rfl Try.underlying27 rfl sz24 rfl rfl) rfl) rfl rfl ?_
        refine .cv (VOk.loadB (d := (L 3 e_api_Attr y2_3_6)) rfl Try.underlying24 rfl rfl rfl rfl) rfl rfl ?_
        refine .cv (VOk.lenL (e := e_api_Attr) (xs := y2_3_6) rfl Try.underlying24 rfl) rfl rfl ?_
        refine .cv (VOk.arith (op := .lss) (k := .i64) (a := x6_2) (b := (y2_3_6.length : Int)) rfl rfl rfl rfl) rfl rfl ?_
        refine .cv (VOk.mv (d := (.v (.bool (decide (x6_2 < (y2_3_6.length : Int)))))) rfl rfl) rfl rfl ?_
        refine OpsOk.consI rfl rfl rfl (.one rfl) rfl (fun hw18 => (VOk.g (VOk.mv (d := (.v (.int .i64 x5_1))) rfl rfl))) ?_
        refine OpsOk.consI rfl rfl rfl (.one rfl) rfl (fun hw18 => (VOk.g (VOk.mv (d := (.v (.int .i64 a1))) rfl rfl))) ?_
        refine OpsOk.consI rfl rfl rfl (.one rfl) rfl (fun hw18 => (GOk.fr (fr' := [(40, (.v (.int .i64 x5_1))), (41, (.v (.int .i64 a1)))]) ⟨DLe.of_eq (cT hw18).symm, DLe.of_eq (cT hw18).symm, trivial⟩ (VOk.g (VOk.arith (op := .leq) (k := .i64) (a := x5_1) (b := a1) rfl rfl rfl rfl)))) ?_
        refine .cv (VOk.to (VOk.pickI (b := (decide (x6_2 < (y2_3_6.length : Int)))) (p := (decide (x5_1 ≤ a1))) (q := false) rfl rfl (fun hp19 => (cT (t_beq hp19))) (fun hp19 => rfl)) (pickAnd (decide (x6_2 < (y2_3_6.length : Int))) (decide (x5_1 ≤ a1)))) rfl rfl ?_
        exact .done (.rf rfl rfl)
      refine Ok.test (b := ((decide (x6_2 < (y2_3_6.length : Int))) && (decide (x5_1 ≤ a1)))) rfl (fun hb46 => ?_) (fun hb46 => ?_)
      · replace H := ifT H hb46
        refine Ok.skip ?_
        refine Ok.seq ?_
        refine Ok.block ?_
        obtain ⟨c20, H⟩ := assertE H
        obtain ⟨c21, H⟩ := assertE H
        obtain ⟨c22, H⟩ := assertE H
        refine Ok.drawE (σ' := ⟨[(1, (.v (.int .i64 a1))), (2, (.bref 2 0)), (5, (.v (.int .i64 (IntKind.i64.wrap ((IntKind.i64.wrap ((IntKind.i64.wrap (x5_1 + (if a1 < ((((rd y2_3_6 x6_2).Name).Space).length : Int) then a1 else ((((rd y2_3_6 x6_2).Name).Space).length : Int)))) + (if a1 < ((((rd y2_3_6 x6_2).Name).Local).length : Int) then a1 else ((((rd y2_3_6 x6_2).Name).Local).length : Int)))) + (if a1 < (((rd y2_3_6 x6_2).Value).length : Int) then a1 else (((rd y2_3_6 x6_2).Value).length : Int))))))), (6, (.v (.int .i64 x6_2)))], [(2, (.box .ex [(.v (.int .i64 y2_0_3)), (S y2_1_4), (S y2_2_5), (L 3 e_api_Attr y2_3_6), (L 6 e_api_Node y2_4_7), (S y2_5_8)]))]⟩) [⟨true, [(5, (.v (.int .i64 x5_1)))], (.v (.int .i64 x5_1))⟩, ⟨true, [(2, (.bref 2 0))], (.bref 2 3)⟩, ⟨true, [(47, (.bref 2 3))], (L 3 e_api_Attr y2_3_6)⟩, ⟨true, [(6, (.v (.int .i64 x6_2)))], (.v (.int .i64 x6_2))⟩, ⟨true, [(48, (L 3 e_api_Attr y2_3_6)), (49, (.v (.int .i64 x6_2)))], (.fp (e_api_Attr (rd y2_3_6 x6_2)) 0)⟩, ⟨true, [(50, (.fp (e_api_Attr (rd y2_3_6 x6_2)) 0))], (.fp (e_api_Attr (rd y2_3_6 x6_2)) 0)⟩, ⟨true, [(51, (.fp (e_api_Attr (rd y2_3_6 x6_2)) 0))], (.fp (e_api_Attr (rd y2_3_6 x6_2)) 0)⟩, ⟨true, [(52, (.fp (e_api_Attr (rd y2_3_6 x6_2)) 0))], (S (((rd y2_3_6 x6_2).Name).Space))⟩, ⟨true, [(53, (S (((rd y2_3_6 x6_2).Name).Space)))], (.v (.int .i64 ((((rd y2_3_6 x6_2).Name).Space).length : Int)))⟩, ⟨true, [(1, (.v (.int .i64 a1)))], (.v (.int .i64 a1))⟩, ⟨true, [(54, (.v (.int .i64 ((((rd y2_3_6 x6_2).Name).Space).length : Int)))), (55, (.v (.int .i64 a1)))], (.v (.int .i64 (if a1 < ((((rd y2_3_6 x6_2).Name).Space).length : Int) then a1 else ((((rd y2_3_6 x6_2).Name).Space).length : Int))))⟩, ⟨true, [(46, (.v (.int .i64 x5_1))), (56, (.v (.int .i64 (if a1 < ((((rd y2_3_6 x6_2).Name).Space).length : Int) then a1 else ((((rd y2_3_6 x6_2).Name).Space).length : Int)))))], (.v (.int .i64 (IntKind.i64.wrap (x5_1 + (if a1 < ((((rd y2_3_6 x6_2).Name).Space).length : Int) then a1 else ((((rd y2_3_6 x6_2).Name).Space).length : Int))))))⟩, ⟨true, [(2, (.bref 2 0))], (.bref 2 3)⟩, ⟨true, [(58, (.bref 2 3))], (L 3 e_api_Attr y2_3_6)⟩, ⟨true, [(6, (.v (.int .i64 x6_2)))], (.v (.int .i64 x6_2))⟩, ⟨true, [(59, (L 3 e_api_Attr y2_3_6)), (60, (.v (.int .i64 x6_2)))], (.fp (e_api_Attr (rd y2_3_6 x6_2)) 0)⟩, ⟨true, [(61, (.fp (e_api_Attr (rd y2_3_6 x6_2)) 0))], (.fp (e_api_Attr (rd y2_3_6 x6_2)) 0)⟩, ⟨true, [(62, (.fp (e_api_Attr (rd y2_3_6 x6_2)) 0))], (.fp (e_api_Attr (rd y2_3_6 x6_2)) 1)⟩, ⟨true, [(63, (.fp (e_api_Attr (rd y2_3_6 x6_2)) 1))], (S (((rd y2_3_6 x6_2).Name).Local))⟩, ⟨true, [(64, (S (((rd y2_3_6 x6_2).Name).Local)))], (.v (.int .i64 ((((rd y2_3_6 x6_2).Name).Local).length : Int)))⟩, ⟨true, [(1, (.v (.int .i64 a1)))], (.v (.int .i64 a1))⟩, ⟨true, [(65, (.v (.int .i64 ((((rd y2_3_6 x6_2).Name).Local).length : Int)))), (66, (.v (.int .i64 a1)))], (.v (.int .i64 (if a1 < ((((rd y2_3_6 x6_2).Name).Local).length : Int) then a1 else ((((rd y2_3_6 x6_2).Name).Local).length : Int))))⟩, ⟨true, [(57, (.v (.int .i64 (IntKind.i64.wrap (x5_1 + (if a1 < ((((rd y2_3_6 x6_2).Name).Space).length : Int) then a1 else ((((rd y2_3_6 x6_2).Name).Space).length : Int))))))), (67, (.v (.int .i64 (if a1 < ((((rd y2_3_6 x6_2).Name).Local).length : Int) then a1 else ((((rd y2_3_6 x6_2).Name).Local).length : Int)))))], (.v (.int .i64 (IntKind.i64.wrap ((IntKind.i64.wrap (x5_1 + (if a1 < ((((rd y2_3_6 x6_2).Name).Space).length : Int) then a1 else ((((rd y2_3_6 x6_2).Name).Space).length : Int)))) + (if a1 < ((((rd y2_3_6 x6_2).Name).Local).length : Int) then a1 else ((((rd y2_3_6 x6_2).Name).Local).length : Int))))))⟩, ⟨true, [(2, (.bref 2 0))], (.bref 2 3)⟩, ⟨true, [(69, (.bref 2 3))], (L 3 e_api_Attr y2_3_6)⟩, ⟨true, [(6, (.v (.int .i64 x6_2)))], (.v (.int .i64 x6_2))⟩, ⟨true, [(70, (L 3 e_api_Attr y2_3_6)), (71, (.v (.int .i64 x6_2)))], (.fp (e_api_Attr (rd y2_3_6 x6_2)) 0)⟩, ⟨true, [(72, (.fp (e_api_Attr (rd y2_3_6 x6_2)) 0))], (.fp (e_api_Attr (rd y2_3_6 x6_2)) 2)⟩, ⟨true, [(73, (.fp (e_api_Attr (rd y2_3_6 x6_2)) 2))], (S ((rd y2_3_6 x6_2).Value))⟩, ⟨true, [(74, (S ((rd y2_3_6 x6_2).Value)))], (.v (.int .i64 (((rd y2_3_6 x6_2).Value).length : Int)))⟩, ⟨true, [(1, (.v (.int .i64 a1)))], (.v (.int .i64 a1))⟩, ⟨true, [(75, (.v (.int .i64 (((rd y2_3_6 x6_2).Value).length : Int)))), (76, (.v (.int .i64 a1)))], (.v (.int .i64 (if a1 < (((rd y2_3_6 x6_2).Value).length : Int) then a1 else (((rd y2_3_6 x6_2).Value).length : Int))))⟩, ⟨true, [(68, (.v (.int .i64 (IntKind.i64.wrap ((IntKind.i64.wrap (x5_1 + (if a1 < ((((rd y2_3_6 x6_2).Name).Space).length : Int) then a1 else ((((rd y2_3_6 x6_2).Name).Space).length : Int)))) + (if a1 < ((((rd y2_3_6 x6_2).Name).Local).length : Int) then a1 else ((((rd y2_3_6 x6_2).Name).Local).length : Int))))))), (77, (.v (.int .i64 (if a1 < (((rd y2_3_6 x6_2).Value).length : Int) then a1 else (((rd y2_3_6 x6_2).Value).length : Int)))))], (.v (.int .i64 (IntKind.i64.wrap ((IntKind.i64.wrap ((IntKind.i64.wrap (x5_1 + (if a1 < ((((rd y2_3_6 x6_2).Name).Space).length : Int) then a1 else ((((rd y2_3_6 x6_2).Name).Space).length : Int)))) + (if a1 < ((((rd y2_3_6 x6_2).Name).Local).length : Int) then a1 else ((((rd y2_3_6 x6_2).Name).Local).length : Int)))) + (if a1 < (((rd y2_3_6 x6_2).Value).length : Int) then a1 else (((rd y2_3_6 x6_2).Value).length : Int))))))⟩, ⟨true, [(78, (.v (.int .i64 (IntKind.i64.wrap ((IntKind.i64.wrap ((IntKind.i64.wrap (x5_1 + (if a1 < ((((rd y2_3_6 x6_2).Name).Space).length : Int) then a1 else ((((rd y2_3_6 x6_2).Name).Space).length : Int)))) + (if a1 < ((((rd y2_3_6 x6_2).Name).Local).length : Int) then a1 else ((((rd y2_3_6 x6_2).Name).Local).length : Int)))) + (if a1 < (((rd y2_3_6 x6_2).Value).length : Int) then a1 else (((rd y2_3_6 x6_2).Value).length : Int)))))))], (.v (.int .i64 (IntKind.i64.wrap ((IntKind.i64.wrap ((IntKind.i64.wrap (x5_1 + (if a1 < ((((rd y2_3_6 x6_2).Name).Space).length : Int) then a1 else ((((rd y2_3_6 x6_2).Name).Space).length : Int)))) + (if a1 < ((((rd y2_3_6 x6_2).Name).Local).length : Int) then a1 else ((((rd y2_3_6 x6_2).Name).Local).length : Int)))) + (if a1 < (((rd y2_3_6 x6_2).Value).length : Int) then a1 else (((rd y2_3_6 x6_2).Value).length : Int))))))⟩] [[], [], [1], [], [2, 3], [4], [5], [6], [7], [], [8, 9], [0, 10], [], [12], [], [13, 14], [15], [16], [17], [18], [], [19, 20], [11, 21], [], [23], [], [24, 25], [26], [27], [28], [], [29, 30], [22, 31], [0, 32]] mixed (by kernel_rfl) ?_ ?_
        · refine TxtE.cons rfl ⟨.same _, trivial⟩ rfl (VOk.g (VOk.mv (d := (.v (.int .i64 x5_1))) rfl rfl)) ?_
          refine TxtE.cons rfl ⟨.same _, trivial⟩ rfl (VOk.g (VOk.to (VOk.fieldB rfl Try.underlying27 rfl sz24 rfl rfl) rfl)) ?_
          refine TxtE.cons rfl ⟨.same _, trivial⟩ rfl (VOk.g (VOk.loadB (d := (L 3 e_api_Attr y2_3_6)) rfl Try.underlying24 rfl rfl rfl rfl)) ?_
          refine TxtE.cons rfl ⟨.same _, trivial⟩ rfl (VOk.g (VOk.mv (d := (.v (.int .i64 x6_2))) rfl rfl)) ?_
          refine TxtE.cons rfl ⟨.same _, .same _, trivial⟩ rfl (VOk.g (VOk.indexL (sz := 3) (e := e_api_Attr) (xs := y2_3_6) (i := x6_2) rfl Try.underlying24 sz47 rfl rfl c20)) ?_
          refine TxtE.cons rfl ⟨.same _, trivial⟩ rfl (VOk.g (VOk.to (VOk.fieldFp rfl Try.underlying47 rfl sz23 rfl) rfl)) ?_
          refine TxtE.cons rfl ⟨.same _, trivial⟩ rfl (VOk.g (VOk.to (VOk.fieldFp rfl Try.underlying23 rfl sz9 rfl) rfl)) ?_
          refine TxtE.cons rfl ⟨.same _, trivial⟩ rfl (VOk.g (VOk.loadFp (d := (S (((rd y2_3_6 x6_2).Name).Space))) rfl Try.underlying9 rfl rfl rfl)) ?_
          refine TxtE.cons rfl ⟨.same _, trivial⟩ rfl (VOk.g (VOk.lenStr (s := ((rd y2_3_6 x6_2).Name).Space) rfl Try.underlying9 rfl)) ?_
          refine TxtE.cons rfl ⟨.same _, trivial⟩ rfl (VOk.g (VOk.mv (d := (.v (.int .i64 a1))) rfl rfl)) ?_
          refine TxtE.cons rfl ⟨.same _, .same _, trivial⟩ rfl (VOk.g (VOk.min2 (a := ((((rd y2_3_6 x6_2).Name).Space).length : Int)) (b := a1) rfl rfl rfl)) ?_
          refine TxtE.cons rfl ⟨.same _, .same _, trivial⟩ rfl (VOk.g (VOk.arith (op := .add) (k := .i64) (a := x5_1) (b := (if a1 < ((((rd y2_3_6 x6_2).Name).Space).length : Int) then a1 else ((((rd y2_3_6 x6_2).Name).Space).length : Int))) rfl rfl rfl rfl)) ?_
          refine TxtE.cons rfl ⟨.same _, trivial⟩ rfl (VOk.g (VOk.to (VOk.fieldB rfl Try.underlying27 rfl sz24 rfl rfl) rfl)) ?_
          refine TxtE.cons rfl ⟨.same _, trivial⟩ rfl (VOk.g (VOk.loadB (d := (L 3 e_api_Attr y2_3_6)) rfl Try.underlying24 rfl rfl rfl rfl)) ?_
          refine TxtE.cons rfl ⟨.same _, trivial⟩ rfl (VOk.g (VOk.mv (d := (.v (.int .i64 x6_2))) rfl rfl)) ?_
          refine TxtE.cons rfl ⟨.same _, .same _, trivial⟩ rfl (VOk.g (VOk.indexL (sz := 3) (e := e_api_Attr) (xs := y2_3_6) (i := x6_2) rfl Try.underlying24 sz47 rfl rfl c21)) ?_
          refine TxtE.cons rfl ⟨.same _, trivial⟩ rfl (VOk.g (VOk.to (VOk.fieldFp rfl Try.underlying47 rfl sz23 rfl) rfl)) ?_
          refine TxtE.cons rfl ⟨.same _, trivial⟩ rfl (VOk.g (VOk.to (VOk.fieldFp rfl Try.underlying23 rfl sz9 rfl) rfl)) ?_
          refine TxtE.cons rfl ⟨.same _, trivial⟩ rfl (VOk.g (VOk.loadFp (d := (S (((rd y2_3_6 x6_2).Name).Local))) rfl Try.underlying9 rfl rfl rfl)) ?_
          refine TxtE.cons rfl ⟨.same _, trivial⟩ rfl (VOk.g (VOk.lenStr (s := ((rd y2_3_6 x6_2).Name).Local) rfl Try.underlying9 rfl)) ?_
          refine TxtE.cons rfl ⟨.same _, trivial⟩ rfl (VOk.g (VOk.mv (d := (.v (.int .i64 a1))) rfl rfl)) ?_
          refine TxtE.cons rfl ⟨.same _, .same _, trivial⟩ rfl (VOk.g (VOk.min2 (a := ((((rd y2_3_6 x6_2).Name).Local).length : Int)) (b := a1) rfl rfl rfl)) ?_
          refine TxtE.cons rfl ⟨.same _, .same _, trivial⟩ rfl (VOk.g (VOk.arith (op := .add) (k := .i64) (a := (IntKind.i64.wrap (x5_1 + (if a1 < ((((rd y2_3_6 x6_2).Name).Space).length : Int) then a1 else ((((rd y2_3_6 x6_2).Name).Space).length : Int))))) (b := (if a1 < ((((rd y2_3_6 x6_2).Name).Local).length : Int) then a1 else ((((rd y2_3_6 x6_2).Name).Local).length : Int))) rfl rfl rfl rfl)) ?_
          refine TxtE.cons rfl ⟨.same _, trivial⟩ rfl (VOk.g (VOk.to (VOk.fieldB rfl Try.underlying27 rfl sz24 rfl rfl) rfl)) ?_
          refine TxtE.cons rfl ⟨.same _, trivial⟩ rfl (VOk.g (VOk.loadB (d := (L 3 e_api_Attr y2_3_6)) rfl Try.underlying24 rfl rfl rfl rfl)) ?_
          refine TxtE.cons rfl ⟨.same _, trivial⟩ rfl (VOk.g (VOk.mv (d := (.v (.int .i64 x6_2))) rfl rfl)) ?_
          refine TxtE.cons rfl ⟨.same _, .same _, trivial⟩ rfl (VOk.g (VOk.indexL (sz := 3) (e := e_api_Attr) (xs := y2_3_6) (i := x6_2) rfl Try.underlying24 sz47 rfl rfl c22)) ?_
          refine TxtE.cons rfl ⟨.same _, trivial⟩ rfl (VOk.g (VOk.to (VOk.fieldFp rfl Try.underlying47 rfl sz9 rfl) rfl)) ?_
          refine TxtE.cons rfl ⟨.same _, trivial⟩ rfl (VOk.g (VOk.loadFp (d := (S ((rd y2_3_6 x6_2).Value))) rfl Try.underlying9 rfl rfl rfl)) ?_
          refine TxtE.cons rfl ⟨.same _, trivial⟩ rfl (VOk.g (VOk.lenStr (s := (rd y2_3_6 x6_2).Value) rfl Try.underlying9 rfl)) ?_
          refine TxtE.cons rfl ⟨.same _, trivial⟩ rfl (VOk.g (VOk.mv (d := (.v (.int .i64 a1))) rfl rfl)) ?_
          refine TxtE.cons rfl ⟨.same _, .same _, trivial⟩ rfl (VOk.g (VOk.min2 (a := (((rd y2_3_6 x6_2).Value).length : Int)) (b := a1) rfl rfl rfl)) ?_
          refine TxtE.cons rfl ⟨.same _, .same _, trivial⟩ rfl (VOk.g (VOk.arith (op := .add) (k := .i64) (a := (IntKind.i64.wrap ((IntKind.i64.wrap (x5_1 + (if a1 < ((((rd y2_3_6 x6_2).Name).Space).length : Int) then a1 else ((((rd y2_3_6 x6_2).Name).Space).length : Int)))) + (if a1 < ((((rd y2_3_6 x6_2).Name).Local).length : Int) then a1 else ((((rd y2_3_6 x6_2).Name).Local).length : Int))))) (b := (if a1 < (((rd y2_3_6 x6_2).Value).length : Int) then a1 else (((rd y2_3_6 x6_2).Value).length : Int))) rfl rfl rfl rfl)) ?_
          refine TxtE.cons rfl ⟨.same _, trivial⟩ rfl (VOk.g (VOk.asg (d := (.v (.int .i64 (IntKind.i64.wrap ((IntKind.i64.wrap ((IntKind.i64.wrap (x5_1 + (if a1 < ((((rd y2_3_6 x6_2).Name).Space).length : Int) then a1 else ((((rd y2_3_6 x6_2).Name).Space).length : Int)))) + (if a1 < ((((rd y2_3_6 x6_2).Name).Local).length : Int) then a1 else ((((rd y2_3_6 x6_2).Name).Local).length : Int)))) + (if a1 < (((rd y2_3_6 x6_2).Value).length : Int) then a1 else (((rd y2_3_6 x6_2).Value).length : Int))))))) rfl rfl)) ?_
          exact .done (.rf rfl rfl)
        refine Ok.region (σ' := ⟨[(1, (.v (.int .i64 a1))), (2, (.bref 2 0)), (5, (.v (.int .i64 (IntKind.i64.wrap ((IntKind.i64.wrap ((IntKind.i64.wrap (x5_1 + (if a1 < ((((rd y2_3_6 x6_2).Name).Space).length : Int) then a1 else ((((rd y2_3_6 x6_2).Name).Space).length : Int)))) + (if a1 < ((((rd y2_3_6 x6_2).Name).Local).length : Int) then a1 else ((((rd y2_3_6 x6_2).Name).Local).length : Int)))) + (if a1 < (((rd y2_3_6 x6_2).Value).length : Int) then a1 else (((rd y2_3_6 x6_2).Value).length : Int))))))), (6, (.v (.int .i64 (IntKind.i64.wrap (x6_2 + 1)))))], [(2, (.box .ex [(.v (.int .i64 y2_0_3)), (S y2_1_4), (S y2_2_5), (L 3 e_api_Attr y2_3_6), (L 6 e_api_Node y2_4_7), (S y2_5_8)]))]⟩) ?_ ?_
        · refine .cv (VOk.mv (d := (.v (.int .i64 x6_2))) rfl rfl) rfl rfl ?_
          refine .cv (VOk.arith (op := .add) (k := .i64) (a := x6_2) (b := 1) rfl rfl rfl rfl) rfl rfl ?_
          refine .cv (VOk.asg (d := (.v (.int .i64 (IntKind.i64.wrap (x6_2 + 1))))) rfl rfl) rfl rfl ?_
          exact .done (.rf rfl rfl)
        exact ⟨m17, Nat.lt_succ_self m17, y2_0_3, y2_1_4, y2_2_5, y2_3_6, y2_4_7, y2_5_8, (IntKind.i64.wrap ((IntKind.i64.wrap ((IntKind.i64.wrap (x5_1 + (if a1 < ((((rd y2_3_6 x6_2).Name).Space).length : Int) then a1 else ((((rd y2_3_6 x6_2).Name).Space).length : Int)))) + (if a1 < ((((rd y2_3_6 x6_2).Name).Local).length : Int) then a1 else ((((rd y2_3_6 x6_2).Name).Local).length : Int)))) + (if a1 < (((rd y2_3_6 x6_2).Value).length : Int) then a1 else (((rd y2_3_6 x6_2).Value).length : Int)))), (IntKind.i64.wrap (x6_2 + 1)), rfl, H⟩
      · replace H := ifF H hb46
        refine Ok.exit ?_
        refine Ok.seq ?_
        refine Ok.seq ?_
        refine Ok.region (σ' := ⟨[(1, (.v (.int .i64 a1))), (2, (.bref 2 0)), (5, (.v (.int .i64 x5_1))), (7, (.v (.int .i64 0)))], [(2, (.box .ex [(.v (.int .i64 y2_0_3)), (S y2_1_4), (S y2_2_5), (L 3 e_api_Attr y2_3_6), (L 6 e_api_Node y2_4_7), (S y2_5_8)]))]⟩) ?_ ?_
        · refine .cv (VOk.asg (d := (.v (.int .i64 0))) rfl rfl) rfl rfl ?_
          exact .done (.rf rfl rfl)
        refine Ok.block ?_
        refine Ok.le (σ' := ⟨[(1, (.v (.int .i64 a1))), (2, (.bref 2 0)), (5, (.v (.int .i64 x5_1))), (7, (.v (.int .i64 0)))], [(2, (.box .ex [(.v (.int .i64 y2_0_3)), (S y2_1_4), (S y2_2_5), (L 3 e_api_Attr y2_3_6), (L 6 e_api_Node y2_4_7), (S y2_5_8)]))]⟩) (.rf rfl rfl) ?_
        refine Ok.loop (fun m39 σ => ∃ (y2_0_25 : Int) (y2_1_26 : Str) (y2_2_27 : Str) (y2_3_28 : List T_api_Attr) (y2_4_29 : List T_api_Node) (y2_5_30 : Str) (x5_23 : Int) (x7_24 : Int), σ = ⟨[(1, (.v (.int .i64 a1))), (2, (.bref 2 0)), (5, (.v (.int .i64 x5_23))), (7, (.v (.int .i64 x7_24)))], [(2, (.box .ex [(.v (.int .i64 y2_0_25)), (S y2_1_26), (S y2_2_27), (L 3 e_api_Attr y2_3_28), (L 6 e_api_Node y2_4_29), (S y2_5_30)]))]⟩ ∧ watchbilllaw04_weigh.l1 k (watchbilllaw04_weigh k) a1 m39 y2_0_25 y2_1_26 y2_2_27 y2_3_28 y2_4_29 y2_5_30 x5_23 x7_24 = some r) k ⟨y2_0_3, y2_1_4, y2_2_5, y2_3_6, y2_4_7, y2_5_8, x5_1, 0, rfl, H⟩ ?_
        rintro m39 σ ⟨y2_0_25, y2_1_26, y2_2_27, y2_3_28, y2_4_29, y2_5_30, x5_23, x7_24, rfl, H⟩
        cases m39 with
        | zero => exact absurd H (by simp [watchbilllaw04_weigh.l1])
        | succ m39 =>
          unfold watchbilllaw04_weigh.l1 at H
          refine Ok.seq ?_
          refine Ok.seq ?_
          refine Ok.region (σ' := ⟨[(1, (.v (.int .i64 a1))), (2, (.bref 2 0)), (5, (.v (.int .i64 x5_23))), (7, (.v (.int .i64 x7_24))), (88, (.v (.bool ((decide (x7_24 < (y2_4_29.length : Int))) && (decide (x5_23 ≤ a1))))))], [(2, (.box .ex [(.v (.int .i64 y2_0_25)), (S y2_1_26), (S y2_2_27), (L 3 e_api_Attr y2_3_28), (L 6 e_api_Node y2_4_29), (S y2_5_30)]))]⟩) ?_ ?_
          · refine .cv (VOk.mv (d := (.v (.int .i64 x7_24))) rfl rfl) rfl rfl ?_
            refine .cv (VOk.to (VOk.fieldB rfl Try.underlying27 rfl sz25 rfl rfl) rfl) rfl rfl ?_
            refine .cv (VOk.loadB (d := (L 6 e_api_Node y2_4_29)) rfl Try.underlying25 rfl rfl rfl rfl) rfl rfl ?_
            refine .cv (VOk.lenL (e := e_api_Node) (xs := y2_4_29) rfl Try.underlying25 rfl) rfl rfl ?_
            refine .cv (VOk.arith (op := .lss) (k := .i64) (a := x7_24) (b := (y2_4_29.length : Int)) rfl rfl rfl rfl) rfl rfl ?_
            refine .cv (VOk.mv (d := (.v (.bool (decide (x7_24 < (y2_4_29.length : Int)))))) rfl rfl) rfl rfl ?_
            refine OpsOk.consI rfl rfl rfl (.one rfl) rfl (fun hw40 => (VOk.g (VOk.mv (d := (.v (.int .i64 x5_23))) rfl rfl))) ?_
            refine OpsOk.consI rfl rfl rfl (.one rfl) rfl (fun hw40 => (VOk.g (VOk.mv (d := (.v (.int .i64 a1))) rfl rfl))) ?_
            refine OpsOk.consI rfl rfl rfl (.one rfl) rfl (fun hw40 => (GOk.fr (fr' := [(85, (.v (.int .i64 x5_23))), (86, (.v (.int .i64 a1)))]) ⟨DLe.of_eq (cT hw40).symm, DLe.of_eq (cT hw40).symm, trivial⟩ (VOk.g (VOk.arith (op := .leq) (k := .i64) (a := x5_23) (b := a1) rfl rfl rfl rfl)))) ?_
            refine .cv (VOk.to (VOk.pickI (b := (decide (x7_24 < (y2_4_29.length : Int)))) (p := (decide (x5_23 ≤ a1))) (q := false) rfl rfl (fun hp41 => (cT (t_beq hp41))) (fun hp41 => rfl)) (pickAnd (decide (x7_24 < (y2_4_29.length : Int))) (decide (x5_23 ≤ a1)))) rfl rfl ?_
            exact .done (.rf rfl rfl)
          refine Ok.test (b := ((decide (x7_24 < (y2_4_29.length : Int))) && (decide (x5_23 ≤ a1)))) rfl (fun hb45 => ?_) (fun hb45 => ?_)
          · replace H := ifT H hb45
            refine Ok.skip ?_
            refine Ok.seq ?_
            refine Ok.block ?_
            obtain ⟨c42, H⟩ := assertE H
            obtain ⟨t43, h44, H⟩ := bindE H
            refine Ok.region (σ' := ⟨[(1, (.v (.int .i64 a1))), (2, (.bref 2 0)), (5, (.v (.int .i64 (IntKind.i64.wrap (x5_23 + t43))))), (7, (.v (.int .i64 x7_24)))], [(2, (.box .ex [(.v (.int .i64 y2_0_25)), (S y2_1_26), (S y2_2_27), (L 3 e_api_Attr y2_3_28), (L 6 e_api_Node y2_4_29), (S y2_5_30)]))]⟩) ?_ ?_
            · refine .cv (VOk.mv (d := (.v (.int .i64 x5_23))) rfl rfl) rfl rfl ?_
              refine .cv (VOk.to (VOk.fieldB rfl Try.underlying27 rfl sz25 rfl rfl) rfl) rfl rfl ?_
              refine .cv (VOk.loadB (d := (L 6 e_api_Node y2_4_29)) rfl Try.underlying25 rfl rfl rfl rfl) rfl rfl ?_
              refine .cv (VOk.mv (d := (.v (.int .i64 x7_24))) rfl rfl) rfl rfl ?_
              refine .cv (VOk.indexL (sz := 6) (e := e_api_Node) (xs := y2_4_29) (i := x7_24) rfl Try.underlying25 sz27 rfl rfl c42) rfl rfl ?_
              refine .cv (VOk.to (d' := (.agg (e_api_Node (rd y2_4_29 x7_24)))) (.loadFpAgg rfl Try.underlying27 rfl sz27 rfl rfl) rfl) rfl rfl ?_
              refine .cv (VOk.mv (d := (.v (.int .i64 a1))) rfl rfl) rfl rfl ?_
              refine .cv (VOk.mv (d := (.v (.int .i64 x5_23))) rfl rfl) rfl rfl ?_
              refine .cv (VOk.arith (op := .sub) (k := .i64) (a := a1) (b := x5_23) rfl rfl rfl rfl) rfl rfl ?_
              refine .cg (GOk.call rfl rfl cl26 rfl (@ih _ _ _ h44) rfl) rfl rfl ?_
              refine .cv (VOk.arith (op := .add) (k := .i64) (a := x5_23) (b := t43) rfl rfl rfl rfl) rfl rfl ?_
              refine .cv (VOk.asg (d := (.v (.int .i64 (IntKind.i64.wrap (x5_23 + t43))))) rfl rfl) rfl rfl ?_
              exact .done (.rf rfl rfl)
            refine Ok.region (σ' := ⟨[(1, (.v (.int .i64 a1))), (2, (.bref 2 0)), (5, (.v (.int .i64 (IntKind.i64.wrap (x5_23 + t43))))), (7, (.v (.int .i64 (IntKind.i64.wrap (x7_24 + 1)))))], [(2, (.box .ex [(.v (.int .i64 y2_0_25)), (S y2_1_26), (S y2_2_27), (L 3 e_api_Attr y2_3_28), (L 6 e_api_Node y2_4_29), (S y2_5_30)]))]⟩) ?_ ?_
            · refine .cv (VOk.mv (d := (.v (.int .i64 x7_24))) rfl rfl) rfl rfl ?_
              refine .cv (VOk.arith (op := .add) (k := .i64) (a := x7_24) (b := 1) rfl rfl rfl rfl) rfl rfl ?_
              refine .cv (VOk.asg (d := (.v (.int .i64 (IntKind.i64.wrap (x7_24 + 1))))) rfl rfl) rfl rfl ?_
              exact .done (.rf rfl rfl)
            exact ⟨m39, Nat.lt_succ_self m39, y2_0_25, y2_1_26, y2_2_27, y2_3_28, y2_4_29, y2_5_30, (IntKind.i64.wrap (x5_23 + t43)), (IntKind.i64.wrap (x7_24 + 1)), rfl, H⟩
          · replace H := ifF H hb45
            refine Ok.exit ?_
            refine Ok.seq ?_
            refine Ok.region (σ' := ⟨[(4, (.v (.int .i64 x5_23)))], []⟩) ?_ ?_
            · refine .cv (VOk.mv (d := (.v (.int .i64 x5_23))) rfl rfl) rfl rfl ?_
              refine .cv (VOk.asg (d := (.v (.int .i64 x5_23))) rfl rfl) rfl rfl ?_
              exact .done (.rf rfl rfl)
            refine Ok.ret ?_
            obtain rfl := Option.some.inj H
            exact ⟨.inl rfl, ⟨_, (.cons (.tmp rfl) .nil), rfl⟩, trivial⟩

/-! watchbill/watchbilllaw04.Few: function 7 -/
def watchbilllaw04_Few (k : Nat) (a0 : T_api_Node) : Option Bool := ((watchbilllaw04_weigh k a0 30000).bind fun (t1 : Int) => some (decide (t1 ≤ 30000)))
theorem watchbilllaw04_Few.ok {k : Nat} {a0 : T_api_Node} {r : Bool} (H : watchbilllaw04_Few k a0 = some r) : Vx.Fn Try.prog 7 [(.agg (e_api_Node a0))] [] (.v (.bool r)) [] := by
  unfold watchbilllaw04_Few at H
  refine Vx.Fn.of_okR Try.func7 rfl (Nat.le_of_ble_eq_true rfl) ?_
  refine Ok.seq ?_
  refine Ok.region (σ' := ⟨[(1, (.bref 1 0))], [(1, (.box .ex (c_api_Node a0)))]⟩) ?_ ?_
  · refine OpsOk.cut1 0 (.agg [(.v (.int .i64 a0.Kind)), (S a0.Name.Space), (S a0.Name.Local), (L 3 e_api_Attr a0.Attrs), (L 6 e_api_Node a0.Kids), (S a0.Text)]) (DLe.of_eq (congrArg D.agg (e_api_Node_c _).symm)) ?_
    refine OpsOk.cons rfl (OpOk.box 1 (cells := [(.v (.int .i64 a0.Kind)), (S a0.Name.Space), (S a0.Name.Local), (L 3 e_api_Attr a0.Attrs), (L 6 e_api_Node a0.Kids), (S a0.Text)]) rfl rfl rfl rfl) ?_
    refine .cv (VOk.asg (d := (.v (.bool false))) rfl rfl) rfl rfl ?_
    exact .done (.rf rfl rfl)
  refine Ok.seq ?_
  obtain ⟨t1, h2, H⟩ := bindE H
  refine Ok.region (σ' := ⟨[(2, (.v (.bool (decide (t1 ≤ 30000)))))], []⟩) ?_ ?_
  · refine .cv (VOk.to (d' := (.agg (e_api_Node a0))) (.loadBAgg rfl Try.underlying27 rfl sz27 rfl rfl rfl) (congrArg D.agg (e_api_Node_c a0).symm)) rfl rfl ?_
    refine .cg (GOk.call rfl rfl cl26 rfl (watchbilllaw04_weigh.ok h2) rfl) rfl rfl ?_
    refine .cv (VOk.arith (op := .leq) (k := .i64) (a := t1) (b := 30000) rfl rfl rfl rfl) rfl rfl ?_
    refine .cv (VOk.asg (d := (.v (.bool (decide (t1 ≤ 30000))))) rfl rfl) rfl rfl ?_
    exact .done (.rf rfl rfl)
  refine Ok.ret ?_
  obtain rfl := Option.some.inj H
  exact ⟨.inl rfl, ⟨_, (.cons (.tmp rfl) .nil), rfl⟩, trivial⟩

/-! watchbill/watchbillref06.At: function 9 -/
def watchbillref06_At : Nat → T_api_Node → List Int → Option (T_api_Node × Bool)
  | 0, _, _ => none
  | k + 1, a0, a1 => (if ((a1.length : Int) == 0) = true then some (a0, true) else (if (0 : Int) ≤ 0 ∧ 0 < (a1.length : Int) then (if (((decide ((rd a1 0) < 0)) == false) = true → (0 : Int) ≤ 0 ∧ 0 < (a1.length : Int)) then (if ((decide ((rd a1 0) < 0)) || (decide ((rd a1 0) ≥ (a0.Kids.length : Int)))) = true then some ((T_api_Node.mk 0 (T_api_Name.mk ([] : Str) ([] : Str)) ([] : List T_api_Attr) ([] : List T_api_Node) ([] : Str)), false) else (if (0 : Int) ≤ 0 ∧ 0 < (a1.length : Int) then (if (0 : Int) ≤ (rd a1 0) ∧ (rd a1 0) < (a0.Kids.length : Int) then (if (0 : Int) ≤ 1 ∧ (1 : Int) ≤ (a1.length : Int) ∧ (a1.length : Int) ≤ (a1.length : Int) then (((watchbillref06_At k) (rd a0.Kids (rd a1 0)) (sl a1 1 (a1.length : Int))).bind fun (t8 : T_api_Node × Bool) => some (t8.1, t8.2)) else none) else none) else none)) else none) else none))
theorem watchbillref06_At.ok {k : Nat} {a0 : T_api_Node} {a1 : List Int} {r : T_api_Node × Bool} (H : watchbillref06_At k a0 a1 = some r) : Vx.Fn Try.prog 9 [(.agg (e_api_Node a0)), (L 1 (eI .i64) a1)] [] (.tup [(.agg (e_api_Node r.1)), (.v (.bool r.2))]) [] := by
  induction k generalizing a0 a1 r with
  | zero => exact absurd H (by simp [watchbillref06_At])
  | succ k ih =>
    unfold watchbillref06_At at H
    refine Vx.Fn.of_okR Try.func9 rfl (Nat.le_of_ble_eq_true rfl) ?_
    refine Ok.seq ?_
    refine Ok.region (σ' := ⟨[(1, (L 1 (eI .i64) a1)), (2, (.bref 2 0)), (4, (.bref 4 0))], [(2, (.box .ex (c_api_Node a0))), (4, (.box .ex [(.v (.int .i64 0)), (S ([] : Str)), (S ([] : Str)), (L 3 e_api_Attr ([] : List T_api_Attr)), (L 6 e_api_Node ([] : List T_api_Node)), (S ([] : Str))]))]⟩) ?_ ?_
    · refine OpsOk.cut1 0 (.agg [(.v (.int .i64 a0.Kind)), (S a0.Name.Space), (S a0.Name.Local), (L 3 e_api_Attr a0.Attrs), (L 6 e_api_Node a0.Kids), (S a0.Text)]) (DLe.of_eq (congrArg D.agg (e_api_Node_c _).symm)) ?_
      refine OpsOk.cons rfl (OpOk.box 2 (cells := [(.v (.int .i64 a0.Kind)), (S a0.Name.Space), (S a0.Name.Local), (L 3 e_api_Attr a0.Attrs), (L 6 e_api_Node a0.Kids), (S a0.Text)]) rfl rfl rfl rfl) ?_
      refine OpsOk.cons rfl (OpOk.alloc 4 [none, none, none, some 3, some 6, none] rfl zo27 rfl rfl) ?_
      refine .cv (VOk.asg (d := (.v (.bool false))) rfl rfl) rfl rfl ?_
      exact .done (.rf rfl rfl)
    refine Ok.seq ?_
    refine Ok.seq ?_
    refine Ok.region (σ' := ⟨[(1, (L 1 (eI .i64) a1)), (2, (.bref 2 0)), (4, (.bref 4 0)), (8, (.v (.bool ((a1.length : Int) == 0))))], [(2, (.box .ex (c_api_Node a0))), (4, (.box .ex [(.v (.int .i64 0)), (S ([] : Str)), (S ([] : Str)), (L 3 e_api_Attr ([] : List T_api_Attr)), (L 6 e_api_Node ([] : List T_api_Node)), (S ([] : Str))]))]⟩) ?_ ?_
    · refine .cv (VOk.mv (d := (L 1 (eI .i64) a1)) rfl rfl) rfl rfl ?_
      refine .cv (VOk.lenL (e := (eI .i64)) (xs := a1) rfl Try.underlying28 rfl) rfl rfl ?_
      refine .cv (VOk.arith (op := .eql) (k := .i64) (a := (a1.length : Int)) (b := 0) rfl rfl rfl rfl) rfl rfl ?_
      exact .done (.rf rfl rfl)
    refine Ok.test (b := ((a1.length : Int) == 0)) rfl (fun hb11 => ?_) (fun hb11 => ?_)
    · replace H := ifT H hb11
      refine Ok.seq ?_
      refine Ok.region (σ' := ⟨[(4, (.bref 4 0)), (5, (.v (.bool true)))], [(4, (.box .ex (c_api_Node a0)))]⟩) ?_ ?_
      · refine .cv (VOk.to (d' := (.agg (e_api_Node a0))) (.loadBAgg rfl Try.underlying27 rfl sz27 rfl rfl rfl) (congrArg D.agg (e_api_Node_c a0).symm)) rfl rfl ?_
        refine OpsOk.cut1 9 (.agg [(.v (.int .i64 a0.Kind)), (S a0.Name.Space), (S a0.Name.Local), (L 3 e_api_Attr a0.Attrs), (L 6 e_api_Node a0.Kids), (S a0.Text)]) (DLe.of_eq (congrArg D.agg (e_api_Node_c _).symm)) ?_
        refine OpsOk.cons rfl (OpOk.to (σ2 := St.put ⟨_, (4, (.box .ex (c_api_Node a0))) :: _⟩ _ .junk) (.storeB rfl sz27 rfl rfl rfl rfl rfl rfl) rfl) ?_
        refine .cv (VOk.asg (d := (.v (.bool true))) rfl rfl) rfl rfl ?_
        exact .done (.rf rfl rfl)
      refine Ok.ret ?_
      obtain rfl := Option.some.inj H
      exact ⟨.inl rfl, ⟨_, (.cons (.cell (VOk.to (d' := (.agg (e_api_Node a0))) (.loadBAgg rfl Try.underlying27 rfl sz27 rfl rfl rfl) (congrArg D.agg (e_api_Node_c a0).symm))) (.cons (.tmp rfl) .nil)), rfl⟩, trivial⟩
    · replace H := ifF H hb11
      refine Ok.skip ?_
      refine Ok.seq ?_
      refine Ok.seq ?_
      obtain ⟨c1, H⟩ := assertE H
      obtain ⟨c3, H⟩ := assertE H
      refine Ok.drawE (σ' := ⟨[(1, (L 1 (eI .i64) a1)), (2, (.bref 2 0)), (4, (.bref 4 0)), (22, (.v (.bool ((decide ((rd a1 0) < 0)) || (decide ((rd a1 0) ≥ (a0.Kids.length : Int)))))))], [(2, (.box .ex (c_api_Node a0))), (4, (.box .ex [(.v (.int .i64 0)), (S ([] : Str)), (S ([] : Str)), (L 3 e_api_Attr ([] : List T_api_Attr)), (L 6 e_api_Node ([] : List T_api_Node)), (S ([] : Str))]))]⟩) [⟨true, [(1, (L 1 (eI .i64) a1))], (L 1 (eI .i64) a1)⟩, ⟨true, [(10, (L 1 (eI .i64) a1))], (.fp ((eI .i64) (rd a1 0)) 0)⟩, ⟨true, [(11, (.fp ((eI .i64) (rd a1 0)) 0))], (.v (.int .i64 (rd a1 0)))⟩, ⟨true, [(12, (.v (.int .i64 (rd a1 0))))], (.v (.bool (decide ((rd a1 0) < 0))))⟩, ⟨true, [(13, (.v (.bool (decide ((rd a1 0) < 0)))))], (.v (.bool (decide ((rd a1 0) < 0))))⟩, It.I ((decide ((rd a1 0) < 0)) == false) [(1, (L 1 (eI .i64) a1)), (14, (.v (.bool (decide ((rd a1 0) < 0)))))] (L 1 (eI .i64) a1), It.I ((decide ((rd a1 0) < 0)) == false) [(15, (bif ((decide ((rd a1 0) < 0)) == false) then (L 1 (eI .i64) a1) else .v undef)), (14, (.v (.bool (decide ((rd a1 0) < 0)))))] (.fp ((eI .i64) (rd a1 0)) 0), It.I ((decide ((rd a1 0) < 0)) == false) [(16, (bif ((decide ((rd a1 0) < 0)) == false) then (.fp ((eI .i64) (rd a1 0)) 0) else .v undef)), (14, (.v (.bool (decide ((rd a1 0) < 0)))))] (.v (.int .i64 (rd a1 0))), It.I ((decide ((rd a1 0) < 0)) == false) [(2, (.bref 2 0)), (14, (.v (.bool (decide ((rd a1 0) < 0)))))] (.bref 2 4), It.I ((decide ((rd a1 0) < 0)) == false) [(18, (bif ((decide ((rd a1 0) < 0)) == false) then (.bref 2 4) else .v undef)), (14, (.v (.bool (decide ((rd a1 0) < 0)))))] (L 6 e_api_Node a0.Kids), It.I ((decide ((rd a1 0) < 0)) == false) [(19, (bif ((decide ((rd a1 0) < 0)) == false) then (L 6 e_api_Node a0.Kids) else .v undef)), (14, (.v (.bool (decide ((rd a1 0) < 0)))))] (.v (.int .i64 (a0.Kids.length : Int))), It.I ((decide ((rd a1 0) < 0)) == false) [(17, (bif ((decide ((rd a1 0) < 0)) == false) then (.v (.int .i64 (rd a1 0))) else .v undef)), (20, (bif ((decide ((rd a1 0) < 0)) == false) then (.v (.int .i64 (a0.Kids.length : Int))) else .v undef)), (14, (.v (.bool (decide ((rd a1 0) < 0)))))] (.v (.bool (decide ((rd a1 0) ≥ (a0.Kids.length : Int))))), ⟨true, [(14, (.v (.bool (decide ((rd a1 0) < 0))))), (21, (bif ((decide ((rd a1 0) < 0)) == false) then (.v (.bool (decide ((rd a1 0) ≥ (a0.Kids.length : Int))))) else .v undef))], (.v (.bool ((decide ((rd a1 0) < 0)) || (decide ((rd a1 0) ≥ (a0.Kids.length : Int))))))⟩] [[], [0], [1], [2], [3], [4], [4, 5], [4, 6], [4], [4, 8], [4, 9], [4, 7, 10], [4, 11]] mixed (by kernel_rfl) ?_ ?_
      · refine TxtE.cons rfl ⟨.same _, trivial⟩ rfl (VOk.g (VOk.mv (d := (L 1 (eI .i64) a1)) rfl rfl)) ?_
        refine TxtE.cons rfl ⟨.same _, trivial⟩ rfl (VOk.g (VOk.indexL (sz := 1) (e := (eI .i64)) (xs := a1) (i := 0) rfl Try.underlying28 sz3 rfl rfl c1)) ?_
        refine TxtE.cons rfl ⟨.same _, trivial⟩ rfl (VOk.g (VOk.loadFp (d := (.v (.int .i64 (rd a1 0)))) rfl Try.underlying3 rfl rfl rfl)) ?_
        refine TxtE.cons rfl ⟨.same _, trivial⟩ rfl (VOk.g (VOk.arith (op := .lss) (k := .i64) (a := (rd a1 0)) (b := 0) rfl rfl rfl rfl)) ?_
        refine TxtE.cons rfl ⟨.same _, trivial⟩ rfl (VOk.g (VOk.mv (d := (.v (.bool (decide ((rd a1 0) < 0))))) rfl rfl)) ?_
        refine TxtE.consI rfl ⟨.same _, .same _, trivial⟩ rfl rfl (.one rfl) (fun hw2 => (VOk.g (VOk.mv (d := (L 1 (eI .i64) a1)) rfl rfl))) ?_
        refine TxtE.consI rfl ⟨.same _, .same _, trivial⟩ rfl rfl (.one rfl) (fun hw2 => (GOk.fr (fr' := [(15, (L 1 (eI .i64) a1))]) ⟨DLe.of_eq (cT hw2).symm, trivial⟩ (VOk.g (VOk.indexL (sz := 1) (e := (eI .i64)) (xs := a1) (i := 0) rfl Try.underlying28 sz3 rfl rfl (c3 hw2))))) ?_
        refine TxtE.consI rfl ⟨.same _, .same _, trivial⟩ rfl rfl (.one rfl) (fun hw2 => (GOk.fr (fr' := [(16, (.fp ((eI .i64) (rd a1 0)) 0))]) ⟨DLe.of_eq (cT hw2).symm, trivial⟩ (VOk.g (VOk.loadFp (d := (.v (.int .i64 (rd a1 0)))) rfl Try.underlying3 rfl rfl rfl)))) ?_
        refine TxtE.consI rfl ⟨.same _, .same _, trivial⟩ rfl rfl (.one rfl) (fun hw2 => (VOk.g (VOk.to (VOk.fieldB rfl Try.underlying27 rfl sz25 rfl rfl) rfl))) ?_
        refine TxtE.consI rfl ⟨.same _, .same _, trivial⟩ rfl rfl (.one rfl) (fun hw2 => (GOk.fr (fr' := [(18, (.bref 2 4))]) ⟨DLe.of_eq (cT hw2).symm, trivial⟩ (VOk.g (VOk.loadB (d := (L 6 e_api_Node a0.Kids)) rfl Try.underlying25 rfl rfl rfl rfl)))) ?_
        refine TxtE.consI rfl ⟨.same _, .same _, trivial⟩ rfl rfl (.one rfl) (fun hw2 => (GOk.fr (fr' := [(19, (L 6 e_api_Node a0.Kids))]) ⟨DLe.of_eq (cT hw2).symm, trivial⟩ (VOk.g (VOk.lenL (e := e_api_Node) (xs := a0.Kids) rfl Try.underlying25 rfl)))) ?_
        refine TxtE.consI rfl ⟨.same _, .same _, .same _, trivial⟩ rfl rfl (.one rfl) (fun hw2 => (GOk.fr (fr' := [(17, (.v (.int .i64 (rd a1 0)))), (20, (.v (.int .i64 (a0.Kids.length : Int))))]) ⟨DLe.of_eq (cT hw2).symm, DLe.of_eq (cT hw2).symm, trivial⟩ (VOk.g (VOk.arith (op := .geq) (k := .i64) (a := (rd a1 0)) (b := (a0.Kids.length : Int)) rfl rfl rfl rfl)))) ?_
        refine TxtE.cons rfl ⟨.same _, .same _, trivial⟩ rfl (VOk.g (VOk.to (VOk.pickI (b := (decide ((rd a1 0) < 0))) (p := true) (q := (decide ((rd a1 0) ≥ (a0.Kids.length : Int)))) rfl rfl (fun hp4 => rfl) (fun hp4 => (cT (f_beq hp4)))) (pickOr (decide ((rd a1 0) < 0)) (decide ((rd a1 0) ≥ (a0.Kids.length : Int)))))) ?_
        exact .done (.rf rfl rfl)
      refine Ok.test (b := ((decide ((rd a1 0) < 0)) || (decide ((rd a1 0) ≥ (a0.Kids.length : Int))))) rfl (fun hb10 => ?_) (fun hb10 => ?_)
      · replace H := ifT H hb10
        refine Ok.seq ?_
        refine Ok.region (σ' := ⟨[(4, (.bref 4 0)), (5, (.v (.bool false)))], [(4, (.box .ex (c_api_Node (T_api_Node.mk 0 (T_api_Name.mk ([] : Str) ([] : Str)) ([] : List T_api_Attr) ([] : List T_api_Node) ([] : Str)))))]⟩) ?_ ?_
        · refine .cv (VOk.to (d' := (.agg (e_api_Node (T_api_Node.mk 0 (T_api_Name.mk ([] : Str) ([] : Str)) ([] : List T_api_Attr) ([] : List T_api_Node) ([] : Str))))) (.build [none, none, none, some 3, some 6, none] [(0, 1), (1, 2), (3, 1), (4, 1), (5, 1)] rfl Try.underlying27 (fa27 Try.underlying27) zo27 rfl rfl) (congrArg D.agg (e_api_Node_c (T_api_Node.mk 0 (T_api_Name.mk ([] : Str) ([] : Str)) ([] : List T_api_Attr) ([] : List T_api_Node) ([] : Str))).symm)) rfl rfl ?_
          refine OpsOk.cut1 23 (.agg [(.v (.int .i64 ((T_api_Node.mk 0 (T_api_Name.mk ([] : Str) ([] : Str)) ([] : List T_api_Attr) ([] : List T_api_Node) ([] : Str)).Kind))), (S ((T_api_Node.mk 0 (T_api_Name.mk ([] : Str) ([] : Str)) ([] : List T_api_Attr) ([] : List T_api_Node) ([] : Str)).Name.Space)), (S ((T_api_Node.mk 0 (T_api_Name.mk ([] : Str) ([] : Str)) ([] : List T_api_Attr) ([] : List T_api_Node) ([] : Str)).Name.Local)), (L 3 e_api_Attr ((T_api_Node.mk 0 (T_api_Name.mk ([] : Str) ([] : Str)) ([] : List T_api_Attr) ([] : List T_api_Node) ([] : Str)).Attrs)), (L 6 e_api_Node ((T_api_Node.mk 0 (T_api_Name.mk ([] : Str) ([] : Str)) ([] : List T_api_Attr) ([] : List T_api_Node) ([] : Str)).Kids)), (S ((T_api_Node.mk 0 (T_api_Name.mk ([] : Str) ([] : Str)) ([] : List T_api_Attr) ([] : List T_api_Node) ([] : Str)).Text))]) (DLe.of_eq (congrArg D.agg (e_api_Node_c _).symm)) ?_
          refine OpsOk.cons rfl (OpOk.to (σ2 := St.put ⟨_, (4, (.box .ex (c_api_Node (T_api_Node.mk 0 (T_api_Name.mk ([] : Str) ([] : Str)) ([] : List T_api_Attr) ([] : List T_api_Node) ([] : Str))))) :: _⟩ _ .junk) (.storeB rfl sz27 rfl rfl rfl rfl rfl rfl) rfl) ?_
          refine .cv (VOk.asg (d := (.v (.bool false))) rfl rfl) rfl rfl ?_
          exact .done (.rf rfl rfl)
        refine Ok.ret ?_
        obtain rfl := Option.some.inj H
        exact ⟨.inl rfl, ⟨_, (.cons (.cell (VOk.to (d' := (.agg (e_api_Node (T_api_Node.mk 0 (T_api_Name.mk ([] : Str) ([] : Str)) ([] : List T_api_Attr) ([] : List T_api_Node) ([] : Str))))) (.loadBAgg rfl Try.underlying27 rfl sz27 rfl rfl rfl) (congrArg D.agg (e_api_Node_c (T_api_Node.mk 0 (T_api_Name.mk ([] : Str) ([] : Str)) ([] : List T_api_Attr) ([] : List T_api_Node) ([] : Str))).symm))) (.cons (.tmp rfl) .nil)), rfl⟩, trivial⟩
      · replace H := ifF H hb10
        refine Ok.skip ?_
        refine Ok.seq ?_
        obtain ⟨c5, H⟩ := assertE H
        obtain ⟨c6, H⟩ := assertE H
        obtain ⟨c7, H⟩ := assertE H
        obtain ⟨t8, h9, H⟩ := bindE H
        refine Ok.le (σ' := ⟨[(1, (L 1 (eI .i64) a1)), (2, (.bref 2 0)), (4, (.bref 4 0))], [(2, (.box .ex (c_api_Node a0))), (4, (.box .ex [(.v (.int .i64 0)), (S ([] : Str)), (S ([] : Str)), (L 3 e_api_Attr ([] : List T_api_Attr)), (L 6 e_api_Node ([] : List T_api_Node)), (S ([] : Str))]))]⟩) (.rf rfl rfl) ?_
        refine Ok.drawE2 (σ' := ⟨[(4, (.bref 4 0)), (5, (.v (.bool t8.2)))], [(4, (.box .ex (c_api_Node t8.1)))]⟩) [⟨true, [(2, (.bref 2 0))], [(2, (.box .ex (c_api_Node a0)))], (.bref 2 4), [], false, []⟩, ⟨true, [(24, (.bref 2 4))], [(2, (.box .ex (c_api_Node a0)))], (L 6 e_api_Node a0.Kids), [], false, []⟩, ⟨true, [(1, (L 1 (eI .i64) a1))], [], (L 1 (eI .i64) a1), [], false, []⟩, ⟨true, [(26, (L 1 (eI .i64) a1))], [], (.fp ((eI .i64) (rd a1 0)) 0), [], false, []⟩, ⟨true, [(27, (.fp ((eI .i64) (rd a1 0)) 0))], [], (.v (.int .i64 (rd a1 0))), [], false, []⟩, ⟨true, [(25, (L 6 e_api_Node a0.Kids)), (28, (.v (.int .i64 (rd a1 0))))], [], (.fp (e_api_Node (rd a0.Kids (rd a1 0))) 0), [], false, []⟩, ⟨true, [(29, (.fp (e_api_Node (rd a0.Kids (rd a1 0))) 0))], [], (.agg (e_api_Node (rd a0.Kids (rd a1 0)))), [], false, []⟩, ⟨true, [(1, (L 1 (eI .i64) a1))], [], (L 1 (eI .i64) a1), [], false, []⟩, ⟨true, [(31, (L 1 (eI .i64) a1))], [], (L 1 (eI .i64) (sl a1 1 (a1.length : Int))), [], false, []⟩, ⟨true, [(30, (.agg (e_api_Node (rd a0.Kids (rd a1 0))))), (32, (L 1 (eI .i64) (sl a1 1 (a1.length : Int))))], [], (.tup [(.agg (e_api_Node t8.1)), (.v (.bool t8.2))]), [], false, []⟩, ⟨true, [(33, (.tup [(.agg (e_api_Node t8.1)), (.v (.bool t8.2))]))], [], (.agg (e_api_Node t8.1)), [], false, []⟩, ⟨true, [(33, (.tup [(.agg (e_api_Node t8.1)), (.v (.bool t8.2))]))], [], (.v (.bool t8.2)), [], false, []⟩, ⟨true, [(4, (.bref 4 0)), (34, (.agg [(.v (.int .i64 t8.1.Kind)), (S t8.1.Name.Space), (S t8.1.Name.Local), (L 3 e_api_Attr t8.1.Attrs), (L 6 e_api_Node t8.1.Kids), (S t8.1.Text)]))], [(4, (.box .ex [(.v (.int .i64 0)), (S ([] : Str)), (S ([] : Str)), (L 3 e_api_Attr ([] : List T_api_Attr)), (L 6 e_api_Node ([] : List T_api_Node)), (S ([] : Str))]))], .junk, [(4, (.box .ex (c_api_Node t8.1)))], false, []⟩, ⟨true, [(35, (.v (.bool t8.2)))], [], (.v (.bool t8.2)), [], false, []⟩] [[], [0], [], [2], [3], [1, 4], [5], [], [7], [6, 8], [9], [9], [10], [11]] mixed (by kernel_rfl) ?_ ?_
        · refine TxtE2.cons ⟨.same _, trivial⟩ ⟨rfl, trivial⟩ (It2.val rfl rfl (fun T hT => (VOk.g (VOk.to (VOk.fieldB rfl Try.underlying27 rfl sz25 rfl hT.1) rfl)))) ?_
          refine TxtE2.cons ⟨.same _, trivial⟩ ⟨rfl, trivial⟩ (It2.val rfl rfl (fun T hT => (VOk.g (VOk.loadB (d := (L 6 e_api_Node a0.Kids)) rfl Try.underlying25 rfl rfl hT.1 rfl)))) ?_
          refine TxtE2.cons ⟨.same _, trivial⟩ trivial (It2.val rfl rfl (fun T hT => (VOk.g (VOk.mv (d := (L 1 (eI .i64) a1)) rfl rfl)))) ?_
          refine TxtE2.cons ⟨.same _, trivial⟩ trivial (It2.val rfl rfl (fun T hT => (VOk.g (VOk.indexL (sz := 1) (e := (eI .i64)) (xs := a1) (i := 0) rfl Try.underlying28 sz3 rfl rfl c5)))) ?_
          refine TxtE2.cons ⟨.same _, trivial⟩ trivial (It2.val rfl rfl (fun T hT => (VOk.g (VOk.loadFp (d := (.v (.int .i64 (rd a1 0)))) rfl Try.underlying3 rfl rfl rfl)))) ?_
          refine TxtE2.cons ⟨.same _, .same _, trivial⟩ trivial (It2.val rfl rfl (fun T hT => (VOk.g (VOk.indexL (sz := 6) (e := e_api_Node) (xs := a0.Kids) (i := (rd a1 0)) rfl Try.underlying25 sz27 rfl rfl c6)))) ?_
          refine TxtE2.cons ⟨.same _, trivial⟩ trivial (It2.val rfl rfl (fun T hT => (VOk.g (VOk.to (d' := (.agg (e_api_Node (rd a0.Kids (rd a1 0))))) (.loadFpAgg rfl Try.underlying27 rfl sz27 rfl rfl) rfl)))) ?_
          refine TxtE2.cons ⟨.same _, trivial⟩ trivial (It2.val rfl rfl (fun T hT => (VOk.g (VOk.mv (d := (L 1 (eI .i64) a1)) rfl rfl)))) ?_
          refine TxtE2.cons ⟨.same _, trivial⟩ trivial (It2.val rfl rfl (fun T hT => (VOk.g (VOk.sliceL (e := (eI .i64)) (xs := a1) (l := 1) (h := (a1.length : Int)) rfl Try.underlying28 sz3 rfl rfl rfl c7)))) ?_
          refine TxtE2.cons ⟨.same _, .same _, trivial⟩ trivial (It2.val rfl rfl (fun T hT => (GOk.call rfl rfl cl9 rfl (@ih _ _ _ h9) rfl))) ?_
          refine TxtE2.cons ⟨.same _, trivial⟩ trivial (It2.val rfl rfl (fun T hT => (VOk.g (VOk.extract (d := (.agg (e_api_Node t8.1))) rfl rfl rfl)))) ?_
          refine TxtE2.cons ⟨.same _, trivial⟩ trivial (It2.val rfl rfl (fun T hT => (VOk.g (VOk.extract (d := (.v (.bool t8.2))) rfl rfl rfl)))) ?_
          refine TxtE2.cons ⟨.same _, DLe.of_eq (congrArg D.agg (e_api_Node_c _).symm), trivial⟩ ⟨rfl, trivial⟩ (It2.store rfl rfl sz27 rfl rfl rfl rfl rfl rfl rfl rfl) ?_
          refine TxtE2.cons ⟨.same _, trivial⟩ trivial (It2.val rfl rfl (fun T hT => (VOk.g (VOk.asg (d := (.v (.bool t8.2))) rfl rfl)))) ?_
          exact .done (.rf rfl rfl)
        refine Ok.ret ?_
        obtain rfl := Option.some.inj H
        exact ⟨.inl rfl, ⟨_, (.cons (.cell (VOk.to (d' := (.agg (e_api_Node t8.1))) (.loadBAgg rfl Try.underlying27 rfl sz27 rfl rfl rfl) (congrArg D.agg (e_api_Node_c t8.1).symm))) (.cons (.tmp rfl) .nil)), rfl⟩, trivial⟩

/-! watchbill/watchbillref06.Places: function 11 -/
def watchbillref06_Places.l1 (k : Nat) (c0 : Int → Str → Str → List T_api_Attr → List T_api_Node → Str → List (List Int) → Int → Option (List (List Int))) (x4_2 : Int) (t20 : (List (List Int))) : Nat → Int → Str → Str → List T_api_Attr → List T_api_Node → Str → List (List Int) → Int → Option (List (List Int))
  | 0, _, _, _, _, _, _, _, _ => none
  | m38 + 1, y1_0_23, y1_1_24, y1_2_25, y1_3_26, y1_4_27, y1_5_28, y3_29, x6_22 => (if (decide (x6_22 < (t20.length : Int))) = true then (if (0 : Int) ≤ x6_22 ∧ x6_22 < (t20.length : Int) then (if (([x4_2] : List Int).length + (rd t20 x6_22).length) * 8 ≤ 140737488355328 then (if (y3_29.length + ([(([x4_2] : List Int) ++ (rd t20 x6_22))] : List (List Int)).length) * 24 ≤ 140737488355328 then watchbillref06_Places.l1 k c0 x4_2 t20 m38 y1_0_23 y1_1_24 y1_2_25 y1_3_26 y1_4_27 y1_5_28 (y3_29 ++ ([(([x4_2] : List Int) ++ (rd t20 x6_22))] : List (List Int))) (IntKind.i64.wrap (x6_22 + 1)) else none) else none) else none) else c0 y1_0_23 y1_1_24 y1_2_25 y1_3_26 y1_4_27 y1_5_28 y3_29 (IntKind.i64.wrap (x4_2 + 1)))
def watchbillref06_Places.l0 (k : Nat) (self : T_api_Node → Option (List (List Int))) : Nat → Int → Str → Str → List T_api_Attr → List T_api_Node → Str → List (List Int) → Int → Option (List (List Int))
  | 0, _, _, _, _, _, _, _, _ => none
  | m18 + 1, y1_0_3, y1_1_4, y1_2_5, y1_3_6, y1_4_7, y1_5_8, y3_9, x4_2 => (if (decide (x4_2 < (y1_4_7.length : Int))) = true then (if (0 : Int) ≤ x4_2 ∧ x4_2 < (y1_4_7.length : Int) then ((self (rd y1_4_7 x4_2)).bind fun (t20 : (List (List Int))) => watchbillref06_Places.l1 k (watchbillref06_Places.l0 k self m18) x4_2 t20 k y1_0_3 y1_1_4 y1_2_5 y1_3_6 y1_4_7 y1_5_8 y3_9 0) else none) else some y3_9)
def watchbillref06_Places : Nat → T_api_Node → Option (List (List Int))
  | 0, _ => none
  | k + 1, a0 => (if (a0.Kind == 1) = true then (if (([] : List (List Int)).length + ([([] : List Int)] : List (List Int)).length) * 24 ≤ 140737488355328 then watchbillref06_Places.l0 k (watchbillref06_Places k) k a0.Kind a0.Name.Space a0.Name.Local a0.Attrs a0.Kids a0.Text (([] : List (List Int)) ++ ([([] : List Int)] : List (List Int))) 0 else none) else some ([] : List (List Int)))
theorem watchbillref06_Places.ok {k : Nat} {a0 : T_api_Node} {r : (List (List Int))} (H : watchbillref06_Places k a0 = some r) : Vx.Fn Try.prog 11 [(.agg (e_api_Node a0))] [] (L 1 (eL 1 (eI .i64)) r) [] := by
  induction k generalizing a0 r with
  | zero => exact absurd H (by simp [watchbillref06_Places])
  | succ k ih =>
    unfold watchbillref06_Places at H
    refine Vx.Fn.of_okR Try.func11 rfl (Nat.le_of_ble_eq_true rfl) ?_
    refine Ok.seq ?_
    refine Ok.region (σ' := ⟨[(1, (.bref 1 0))], [(1, (.box .ex (c_api_Node a0)))]⟩) ?_ ?_
    · refine OpsOk.cut1 0 (.agg [(.v (.int .i64 a0.Kind)), (S a0.Name.Space), (S a0.Name.Local), (L 3 e_api_Attr a0.Attrs), (L 6 e_api_Node a0.Kids), (S a0.Text)]) (DLe.of_eq (congrArg D.agg (e_api_Node_c _).symm)) ?_
      refine OpsOk.cons rfl (OpOk.box 1 (cells := [(.v (.int .i64 a0.Kind)), (S a0.Name.Space), (S a0.Name.Local), (L 3 e_api_Attr a0.Attrs), (L 6 e_api_Node a0.Kids), (S a0.Text)]) rfl rfl rfl rfl) ?_
      refine .cv (VOk.asg (d := (.v (.slice none 0 0))) rfl rfl) rfl rfl ?_
      exact .done (.rf rfl rfl)
    refine Ok.seq ?_
    refine Ok.region (σ' := ⟨[(1, (.bref 1 0)), (3, (.sref 3))], [(1, (.box .ex (c_api_Node a0))), (3, (.rows true 28 1 (([] : List (List Int)).map (eL 1 (eI .i64)))))]⟩) ?_ ?_
    · refine OpsOk.cons rfl (.nilT 3 28 1 (.inl rfl) rfl rfl) ?_
      exact .done (.rf rfl rfl)
    refine Ok.seq ?_
    refine Ok.seq ?_
    refine Ok.region (σ' := ⟨[(1, (.bref 1 0)), (3, (.sref 3)), (9, (.v (.bool (a0.Kind == 1))))], [(1, (.box .ex (c_api_Node a0))), (3, (.rows true 28 1 (([] : List (List Int)).map (eL 1 (eI .i64)))))]⟩) ?_ ?_
    · refine .cv (VOk.to (VOk.fieldB rfl Try.underlying27 rfl sz3 rfl rfl) rfl) rfl rfl ?_
      refine .cv (VOk.loadB (d := (.v (.int .i64 a0.Kind))) rfl Try.underlying3 rfl rfl rfl rfl) rfl rfl ?_
      refine .cv (VOk.arith (op := .eql) (k := .i64) (a := a0.Kind) (b := 1) rfl rfl rfl rfl) rfl rfl ?_
      exact .done (.rf rfl rfl)
    refine Ok.test (b := (a0.Kind == 1)) rfl (fun hb44 => ?_) (fun hb44 => ?_)
    · replace H := ifT H hb44
      refine Ok.seq ?_
      obtain ⟨c1, H⟩ := assertE H
      refine Ok.region (σ' := ⟨[(1, (.bref 1 0)), (3, (.sref 3))], [(1, (.box .ex (c_api_Node a0))), (3, (.rows true 28 1 ((([] : List (List Int)) ++ ([([] : List Int)] : List (List Int))).map (eL 1 (eI .i64)))))]⟩) ?_ ?_
      · refine .cv (VOk.mv (d := (.sref 3)) rfl rfl) rfl rfl ?_
        refine .cg (GOk.to (d' := (L 1 (eI .i64) ([] : List Int))) (GOk.lit rfl Try.underlying28 sz3 zs3 rfl rfl rfl rfl) rfl) rfl rfl ?_
        refine .cg (GOk.to (d' := (L 1 (eL 1 (eI .i64)) ([([] : List Int)] : List (List Int)))) (GOk.lit rfl Try.underlying34 sz28 zs28 rfl rfl rfl rfl) rfl) rfl rfl ?_
        refine OpsOk.cons rfl (OpOk.appendL (e := (eL 1 (eI .i64))) (xs := ([] : List (List Int))) (ys := ([([] : List Int)] : List (List Int))) rfl Try.underlying34 elt28 rfl rfl rfl c1 rfl) ?_
        refine .cv (VOk.asg (d := (.sref 3)) rfl rfl) rfl rfl ?_
        exact .done (.rf rfl rfl)
      refine Ok.seq ?_
      refine Ok.region (σ' := ⟨[(1, (.bref 1 0)), (3, (.sref 3)), (4, (.v (.int .i64 0)))], [(1, (.box .ex (c_api_Node a0))), (3, (.rows true 28 1 ((([] : List (List Int)) ++ ([([] : List Int)] : List (List Int))).map (eL 1 (eI .i64)))))]⟩) ?_ ?_
      · refine .cv (VOk.asg (d := (.v (.int .i64 0))) rfl rfl) rfl rfl ?_
        exact .done (.rf rfl rfl)
      refine Ok.block ?_
      refine Ok.le (σ' := ⟨[(1, (.bref 1 0)), (3, (.sref 3)), (4, (.v (.int .i64 0)))], [(1, (.box .ex (c_api_Node a0))), (3, (.rows true 28 1 ((([] : List (List Int)) ++ ([([] : List Int)] : List (List Int))).map (eL 1 (eI .i64)))))]⟩) (.rf rfl rfl) ?_
      refine Ok.loop (fun m18 σ => ∃ (y1_0_3 : Int) (y1_1_4 : Str) (y1_2_5 : Str) (y1_3_6 : List T_api_Attr) (y1_4_7 : List T_api_Node) (y1_5_8 : Str) (y3_9 : List (List Int)) (x4_2 : Int), σ = ⟨[(1, (.bref 1 0)), (3, (.sref 3)), (4, (.v (.int .i64 x4_2)))], [(1, (.box .ex [(.v (.int .i64 y1_0_3)), (S y1_1_4), (S y1_2_5), (L 3 e_api_Attr y1_3_6), (L 6 e_api_Node y1_4_7), (S y1_5_8)])), (3, (.rows true 28 1 (y3_9.map (eL 1 (eI .i64)))))]⟩ ∧ watchbillref06_Places.l0 k (watchbillref06_Places k) m18 y1_0_3 y1_1_4 y1_2_5 y1_3_6 y1_4_7 y1_5_8 y3_9 x4_2 = some r) k ⟨a0.Kind, a0.Name.Space, a0.Name.Local, a0.Attrs, a0.Kids, a0.Text, (([] : List (List Int)) ++ ([([] : List Int)] : List (List Int))), 0, rfl, H⟩ ?_
      rintro m18 σ ⟨y1_0_3, y1_1_4, y1_2_5, y1_3_6, y1_4_7, y1_5_8, y3_9, x4_2, rfl, H⟩
      cases m18 with
      | zero => exact absurd H (by simp [watchbillref06_Places.l0])
      | succ m18 =>
        unfold watchbillref06_Places.l0 at H
        refine Ok.seq ?_
        refine Ok.seq ?_
        refine Ok.region (σ' := ⟨[(1, (.bref 1 0)), (3, (.sref 3)), (4, (.v (.int .i64 x4_2))), (18, (.v (.bool (decide (x4_2 < (y1_4_7.length : Int))))))], [(1, (.box .ex [(.v (.int .i64 y1_0_3)), (S y1_1_4), (S y1_2_5), (L 3 e_api_Attr y1_3_6), (L 6 e_api_Node y1_4_7), (S y1_5_8)])), (3, (.rows true 28 1 (y3_9.map (eL 1 (eI .i64)))))]⟩) ?_ ?_
        · refine .cv (VOk.mv (d := (.v (.int .i64 x4_2))) rfl rfl) rfl rfl ?_
          refine .cv (VOk.to (VOk.fieldB rfl Try.underlying27 rfl sz25 rfl rfl) rfl) rfl rfl ?_
          refine .cv (VOk.loadB (d := (L 6 e_api_Node y1_4_7)) rfl Try.underlying25 rfl rfl rfl rfl) rfl rfl ?_
          refine .cv (VOk.lenL (e := e_api_Node) (xs := y1_4_7) rfl Try.underlying25 rfl) rfl rfl ?_
          refine .cv (VOk.arith (op := .lss) (k := .i64) (a := x4_2) (b := (y1_4_7.length : Int)) rfl rfl rfl rfl) rfl rfl ?_
          exact .done (.rf rfl rfl)
        refine Ok.test (b := (decide (x4_2 < (y1_4_7.length : Int)))) rfl (fun hb43 => ?_) (fun hb43 => ?_)
        · replace H := ifT H hb43
          refine Ok.skip ?_
          refine Ok.seq ?_
          refine Ok.block ?_
          refine Ok.seq ?_
          obtain ⟨c19, H⟩ := assertE H
          obtain ⟨t20, h21, H⟩ := bindE H
          refine Ok.region (σ' := ⟨[(1, (.bref 1 0)), (3, (.sref 3)), (4, (.v (.int .i64 x4_2))), (5, (L 1 (eL 1 (eI .i64)) t20))], [(1, (.box .ex [(.v (.int .i64 y1_0_3)), (S y1_1_4), (S y1_2_5), (L 3 e_api_Attr y1_3_6), (L 6 e_api_Node y1_4_7), (S y1_5_8)])), (3, (.rows true 28 1 (y3_9.map (eL 1 (eI .i64)))))]⟩) ?_ ?_
          · refine .cv (VOk.to (VOk.fieldB rfl Try.underlying27 rfl sz25 rfl rfl) rfl) rfl rfl ?_
            refine .cv (VOk.loadB (d := (L 6 e_api_Node y1_4_7)) rfl Try.underlying25 rfl rfl rfl rfl) rfl rfl ?_
            refine .cv (VOk.mv (d := (.v (.int .i64 x4_2))) rfl rfl) rfl rfl ?_
            refine .cv (VOk.indexL (sz := 6) (e := e_api_Node) (xs := y1_4_7) (i := x4_2) rfl Try.underlying25 sz27 rfl rfl c19) rfl rfl ?_
            refine .cv (VOk.to (d' := (.agg (e_api_Node (rd y1_4_7 x4_2)))) (.loadFpAgg rfl Try.underlying27 rfl sz27 rfl rfl) rfl) rfl rfl ?_
            refine .cg (GOk.call rfl rfl cl11 rfl (@ih _ _ h21) rfl) rfl rfl ?_
            refine .cv (VOk.asg (d := (L 1 (eL 1 (eI .i64)) t20)) rfl rfl) rfl rfl ?_
            exact .done (.rf rfl rfl)
          refine Ok.seq ?_
          refine Ok.region (σ' := ⟨[(1, (.bref 1 0)), (3, (.sref 3)), (4, (.v (.int .i64 x4_2))), (5, (L 1 (eL 1 (eI .i64)) t20)), (6, (.v (.int .i64 0)))], [(1, (.box .ex [(.v (.int .i64 y1_0_3)), (S y1_1_4), (S y1_2_5), (L 3 e_api_Attr y1_3_6), (L 6 e_api_Node y1_4_7), (S y1_5_8)])), (3, (.rows true 28 1 (y3_9.map (eL 1 (eI .i64)))))]⟩) ?_ ?_
          · refine .cv (VOk.asg (d := (.v (.int .i64 0))) rfl rfl) rfl rfl ?_
            exact .done (.rf rfl rfl)
          refine Ok.block ?_
          refine Ok.le (σ' := ⟨[(1, (.bref 1 0)), (3, (.sref 3)), (4, (.v (.int .i64 x4_2))), (5, (L 1 (eL 1 (eI .i64)) t20)), (6, (.v (.int .i64 0)))], [(1, (.box .ex [(.v (.int .i64 y1_0_3)), (S y1_1_4), (S y1_2_5), (L 3 e_api_Attr y1_3_6), (L 6 e_api_Node y1_4_7), (S y1_5_8)])), (3, (.rows true 28 1 (y3_9.map (eL 1 (eI .i64)))))]⟩) (.rf rfl rfl) ?_
          refine Ok.loop (fun m38 σ => ∃ (y1_0_23 : Int) (y1_1_24 : Str) (y1_2_25 : Str) (y1_3_26 : List T_api_Attr) (y1_4_27 : List T_api_Node) (y1_5_28 : Str) (y3_29 : List (List Int)) (x6_22 : Int), σ = ⟨[(1, (.bref 1 0)), (3, (.sref 3)), (4, (.v (.int .i64 x4_2))), (5, (L 1 (eL 1 (eI .i64)) t20)), (6, (.v (.int .i64 x6_22)))], [(1, (.box .ex [(.v (.int .i64 y1_0_23)), (S y1_1_24), (S y1_2_25), (L 3 e_api_Attr y1_3_26), (L 6 e_api_Node y1_4_27), (S y1_5_28)])), (3, (.rows true 28 1 (y3_29.map (eL 1 (eI .i64)))))]⟩ ∧ watchbillref06_Places.l1 k (watchbillref06_Places.l0 k (watchbillref06_Places k) m18) x4_2 t20 m38 y1_0_23 y1_1_24 y1_2_25 y1_3_26 y1_4_27 y1_5_28 y3_29 x6_22 = some r) k ⟨y1_0_3, y1_1_4, y1_2_5, y1_3_6, y1_4_7, y1_5_8, y3_9, 0, rfl, H⟩ ?_
          rintro m38 σ ⟨y1_0_23, y1_1_24, y1_2_25, y1_3_26, y1_4_27, y1_5_28, y3_29, x6_22, rfl, H⟩
          cases m38 with
          | zero => exact absurd H (by simp [watchbillref06_Places.l1])
          | succ m38 =>
            unfold watchbillref06_Places.l1 at H
            refine Ok.seq ?_
            refine Ok.seq ?_
            refine Ok.region (σ' := ⟨[(1, (.bref 1 0)), (3, (.sref 3)), (4, (.v (.int .i64 x4_2))), (5, (L 1 (eL 1 (eI .i64)) t20)), (6, (.v (.int .i64 x6_22))), (30, (.v (.bool (decide (x6_22 < (t20.length : Int))))))], [(1, (.box .ex [(.v (.int .i64 y1_0_23)), (S y1_1_24), (S y1_2_25), (L 3 e_api_Attr y1_3_26), (L 6 e_api_Node y1_4_27), (S y1_5_28)])), (3, (.rows true 28 1 (y3_29.map (eL 1 (eI .i64)))))]⟩) ?_ ?_
            · refine .cv (VOk.mv (d := (.v (.int .i64 x6_22))) rfl rfl) rfl rfl ?_
              refine .cv (VOk.mv (d := (L 1 (eL 1 (eI .i64)) t20)) rfl rfl) rfl rfl ?_
              refine .cv (VOk.lenL (e := (eL 1 (eI .i64))) (xs := t20) rfl Try.underlying34 rfl) rfl rfl ?_
              refine .cv (VOk.arith (op := .lss) (k := .i64) (a := x6_22) (b := (t20.length : Int)) rfl rfl rfl rfl) rfl rfl ?_
              exact .done (.rf rfl rfl)
            refine Ok.test (b := (decide (x6_22 < (t20.length : Int)))) rfl (fun hb42 => ?_) (fun hb42 => ?_)
            · replace H := ifT H hb42
              refine Ok.skip ?_
              refine Ok.seq ?_
              refine Ok.block ?_
              obtain ⟨c39, H⟩ := assertE H
              obtain ⟨c40, H⟩ := assertE H
              obtain ⟨c41, H⟩ := assertE H
              refine Ok.region (σ' := ⟨[(1, (.bref 1 0)), (3, (.sref 3)), (4, (.v (.int .i64 x4_2))), (5, (L 1 (eL 1 (eI .i64)) t20)), (6, (.v (.int .i64 x6_22)))], [(1, (.box .ex [(.v (.int .i64 y1_0_23)), (S y1_1_24), (S y1_2_25), (L 3 e_api_Attr y1_3_26), (L 6 e_api_Node y1_4_27), (S y1_5_28)])), (3, (.rows true 28 1 ((y3_29 ++ ([(([x4_2] : List Int) ++ (rd t20 x6_22))] : List (List Int))).map (eL 1 (eI .i64)))))]⟩) ?_ ?_
              · refine .cv (VOk.mv (d := (.sref 3)) rfl rfl) rfl rfl ?_
                refine .cv (VOk.mv (d := (.v (.int .i64 x4_2))) rfl rfl) rfl rfl ?_
                refine .cg (GOk.to (d' := (.clist 1 (List.map (eI .i64) ([x4_2] : List Int)))) (GOk.litC rfl Try.underlying28 sz3 zs3 rfl rfl rfl rfl) rfl) rfl rfl ?_
                refine .cv (VOk.mv (d := (L 1 (eL 1 (eI .i64)) t20)) rfl rfl) rfl rfl ?_
                refine .cv (VOk.mv (d := (.v (.int .i64 x6_22))) rfl rfl) rfl rfl ?_
                refine .cv (VOk.indexL (sz := 1) (e := (eL 1 (eI .i64))) (xs := t20) (i := x6_22) rfl Try.underlying34 sz28 rfl rfl c39) rfl rfl ?_
                refine .cv (VOk.loadFp (d := (L 1 (eI .i64) (rd t20 x6_22))) rfl Try.underlying28 rfl rfl rfl) rfl rfl ?_
                refine .cg (GOk.appendC (e := (eI .i64)) (xs := ([x4_2] : List Int)) (ys := (rd t20 x6_22)) rfl Try.underlying28 elt3 (.same _) rfl c40) rfl rfl ?_
                refine .cg (GOk.to (d' := (L 1 (eL 1 (eI .i64)) ([(([x4_2] : List Int) ++ (rd t20 x6_22))] : List (List Int)))) (GOk.lit rfl Try.underlying34 sz28 zs28 rfl rfl rfl rfl) rfl) rfl rfl ?_
                refine OpsOk.cons rfl (OpOk.appendL (e := (eL 1 (eI .i64))) (xs := y3_29) (ys := ([(([x4_2] : List Int) ++ (rd t20 x6_22))] : List (List Int))) rfl Try.underlying34 elt28 rfl rfl rfl c41 rfl) ?_
                refine .cv (VOk.asg (d := (.sref 3)) rfl rfl) rfl rfl ?_
                exact .done (.rf rfl rfl)
              refine Ok.region (σ' := ⟨[(1, (.bref 1 0)), (3, (.sref 3)), (4, (.v (.int .i64 x4_2))), (5, (L 1 (eL 1 (eI .i64)) t20)), (6, (.v (.int .i64 (IntKind.i64.wrap (x6_22 + 1)))))], [(1, (.box .ex [(.v (.int .i64 y1_0_23)), (S y1_1_24), (S y1_2_25), (L 3 e_api_Attr y1_3_26), (L 6 e_api_Node y1_4_27), (S y1_5_28)])), (3, (.rows true 28 1 ((y3_29 ++ ([(([x4_2] : List Int) ++ (rd t20 x6_22))] : List (List Int))).map (eL 1 (eI .i64)))))]⟩) ?_ ?_
              · refine .cv (VOk.mv (d := (.v (.int .i64 x6_22))) rfl rfl) rfl rfl ?_
                refine .cv (VOk.arith (op := .add) (k := .i64) (a := x6_22) (b := 1) rfl rfl rfl rfl) rfl rfl ?_
                refine .cv (VOk.asg (d := (.v (.int .i64 (IntKind.i64.wrap (x6_22 + 1))))) rfl rfl) rfl rfl ?_
                exact .done (.rf rfl rfl)
              exact ⟨m38, Nat.lt_succ_self m38, y1_0_23, y1_1_24, y1_2_25, y1_3_26, y1_4_27, y1_5_28, (y3_29 ++ ([(([x4_2] : List Int) ++ (rd t20 x6_22))] : List (List Int))), (IntKind.i64.wrap (x6_22 + 1)), rfl, H⟩
            · replace H := ifF H hb42
              refine Ok.exit ?_
              refine Ok.region (σ' := ⟨[(1, (.bref 1 0)), (3, (.sref 3)), (4, (.v (.int .i64 (IntKind.i64.wrap (x4_2 + 1)))))], [(1, (.box .ex [(.v (.int .i64 y1_0_23)), (S y1_1_24), (S y1_2_25), (L 3 e_api_Attr y1_3_26), (L 6 e_api_Node y1_4_27), (S y1_5_28)])), (3, (.rows true 28 1 (y3_29.map (eL 1 (eI .i64)))))]⟩) ?_ ?_
              · refine .cv (VOk.mv (d := (.v (.int .i64 x4_2))) rfl rfl) rfl rfl ?_
                refine .cv (VOk.arith (op := .add) (k := .i64) (a := x4_2) (b := 1) rfl rfl rfl rfl) rfl rfl ?_
                refine .cv (VOk.asg (d := (.v (.int .i64 (IntKind.i64.wrap (x4_2 + 1))))) rfl rfl) rfl rfl ?_
                exact .done (.rf rfl rfl)
              exact ⟨m18, Nat.lt_succ_self m18, y1_0_23, y1_1_24, y1_2_25, y1_3_26, y1_4_27, y1_5_28, y3_29, (IntKind.i64.wrap (x4_2 + 1)), rfl, H⟩
        · replace H := ifF H hb43
          refine Ok.exit ?_
          refine Ok.seq ?_
          refine Ok.region (σ' := ⟨[(2, (.sref 3))], [(3, (.rows true 28 1 (y3_9.map (eL 1 (eI .i64)))))]⟩) ?_ ?_
          · refine .cv (VOk.mv (d := (.sref 3)) rfl rfl) rfl rfl ?_
            refine .cv (VOk.asg (d := (.sref 3)) rfl rfl) rfl rfl ?_
            exact .done (.rf rfl rfl)
          refine Ok.frzL 3 (e := (eL 1 (eI .i64))) (xs := y3_9) rfl ?_
          refine Ok.ret ?_
          obtain rfl := Option.some.inj H
          exact ⟨.inl rfl, ⟨_, (.cons (.tmp rfl) .nil), rfl⟩, trivial⟩
    · replace H := ifF H hb44
      refine Ok.skip ?_
      refine Ok.seq ?_
      refine Ok.region (σ' := ⟨[(2, (.sref 3))], [(3, (.rows true 28 1 (([] : List (List Int)).map (eL 1 (eI .i64)))))]⟩) ?_ ?_
      · refine .cv (VOk.mv (d := (.sref 3)) rfl rfl) rfl rfl ?_
        refine .cv (VOk.asg (d := (.sref 3)) rfl rfl) rfl rfl ?_
        exact .done (.rf rfl rfl)
      refine Ok.frzL 3 (e := (eL 1 (eI .i64))) (xs := ([] : List (List Int))) rfl ?_
      refine Ok.ret ?_
      obtain rfl := Option.some.inj H
      exact ⟨.inl rfl, ⟨_, (.cons (.tmp rfl) .nil), rfl⟩, trivial⟩

/-! watchbill/watchbillref04.Same: function 34 -/
def watchbillref04_Same.j2 (c1 : Int → Str → Str → List T_api_Attr → List T_api_Node → Str → Int → Str → Str → List T_api_Attr → List T_api_Node → Str → Int → Int → Int → Option Bool) (x5_9 : Int) (y2_0_39 : Int) (y2_1_40 : Str) (y2_2_41 : Str) (y2_3_42 : List T_api_Attr) (y2_4_43 : List T_api_Node) (y2_5_44 : Str) (y3_0_45 : Int) (y3_1_46 : Str) (y3_2_47 : Str) (y3_3_48 : List T_api_Attr) (y3_4_49 : List T_api_Node) (y3_5_50 : Str) (x7_37 : Int) (x8_38 : Int) (x6_67 : Int) : Option Bool := (if (0 : Int) ≤ x8_38 ∧ x8_38 < (y3_3_48.length : Int) then (if (0 : Int) ≤ x5_9 ∧ x5_9 < (y2_3_42.length : Int) then (if ((rd y3_3_48 x8_38).Name.Space == (rd y2_3_42 x5_9).Name.Space && ((rd y3_3_48 x8_38).Name.Local == (rd y2_3_42 x5_9).Name.Local && ((rd y3_3_48 x8_38).Value == (rd y2_3_42 x5_9).Value && true))) = true then c1 y2_0_39 y2_1_40 y2_2_41 y2_3_42 y2_4_43 y2_5_44 y3_0_45 y3_1_46 y3_2_47 y3_3_48 y3_4_49 y3_5_50 x6_67 (IntKind.i64.wrap (x7_37 + 1)) (IntKind.i64.wrap (x8_38 + 1)) else c1 y2_0_39 y2_1_40 y2_2_41 y2_3_42 y2_4_43 y2_5_44 y3_0_45 y3_1_46 y3_2_47 y3_3_48 y3_4_49 y3_5_50 x6_67 x7_37 (IntKind.i64.wrap (x8_38 + 1))) else none) else none)
def watchbillref04_Same.l1 (k : Nat) (c0 : Int → Str → Str → List T_api_Attr → List T_api_Node → Str → Int → Str → Str → List T_api_Attr → List T_api_Node → Str → Int → Option Bool) (x5_9 : Int) : Nat → Int → Str → Str → List T_api_Attr → List T_api_Node → Str → Int → Str → Str → List T_api_Attr → List T_api_Node → Str → Int → Int → Int → Option Bool
  | 0, _, _, _, _, _, _, _, _, _, _, _, _, _, _, _ => none
  | m66 + 1, y2_0_39, y2_1_40, y2_2_41, y2_3_42, y2_4_43, y2_5_44, y3_0_45, y3_1_46, y3_2_47, y3_3_48, y3_4_49, y3_5_50, x6_36, x7_37, x8_38 => (if (decide (x8_38 < (y2_3_42.length : Int))) = true then (if (0 : Int) ≤ x8_38 ∧ x8_38 < (y2_3_42.length : Int) then (if (0 : Int) ≤ x5_9 ∧ x5_9 < (y2_3_42.length : Int) then (if ((rd y2_3_42 x8_38).Name.Space == (rd y2_3_42 x5_9).Name.Space && ((rd y2_3_42 x8_38).Name.Local == (rd y2_3_42 x5_9).Name.Local && ((rd y2_3_42 x8_38).Value == (rd y2_3_42 x5_9).Value && true))) = true then watchbillref04_Same.j2 (watchbillref04_Same.l1 k c0 x5_9 m66) x5_9 y2_0_39 y2_1_40 y2_2_41 y2_3_42 y2_4_43 y2_5_44 y3_0_45 y3_1_46 y3_2_47 y3_3_48 y3_4_49 y3_5_50 x7_37 x8_38 (IntKind.i64.wrap (x6_36 + 1)) else watchbillref04_Same.j2 (watchbillref04_Same.l1 k c0 x5_9 m66) x5_9 y2_0_39 y2_1_40 y2_2_41 y2_3_42 y2_4_43 y2_5_44 y3_0_45 y3_1_46 y3_2_47 y3_3_48 y3_4_49 y3_5_50 x7_37 x8_38 x6_36) else none) else none) else (if (x6_36 != x7_37) = true then some false else c0 y2_0_39 y2_1_40 y2_2_41 y2_3_42 y2_4_43 y2_5_44 y3_0_45 y3_1_46 y3_2_47 y3_3_48 y3_4_49 y3_5_50 (IntKind.i64.wrap (x5_9 + 1))))
def watchbillref04_Same.l3 (k : Nat) (self : T_api_Node → T_api_Node → Option Bool) : Nat → Int → Str → Str → List T_api_Attr → List T_api_Node → Str → Int → Str → Str → List T_api_Attr → List T_api_Node → Str → Int → Option Bool
  | 0, _, _, _, _, _, _, _, _, _, _, _, _, _ => none
  | m102 + 1, y2_0_77, y2_1_78, y2_2_79, y2_3_80, y2_4_81, y2_5_82, y3_0_83, y3_1_84, y3_2_85, y3_3_86, y3_4_87, y3_5_88, x9_76 => (if (decide (x9_76 < (y2_4_81.length : Int))) = true then (if (0 : Int) ≤ x9_76 ∧ x9_76 < (y2_4_81.length : Int) then (if (0 : Int) ≤ x9_76 ∧ x9_76 < (y3_4_87.length : Int) then ((self (rd y2_4_81 x9_76) (rd y3_4_87 x9_76)).bind fun (t105 : Bool) => (if (!t105) = true then some false else watchbillref04_Same.l3 k self m102 y2_0_77 y2_1_78 y2_2_79 y2_3_80 y2_4_81 y2_5_82 y3_0_83 y3_1_84 y3_2_85 y3_3_86 y3_4_87 y3_5_88 (IntKind.i64.wrap (x9_76 + 1)))) else none) else none) else some true)
def watchbillref04_Same.l0 (k : Nat) (self : T_api_Node → T_api_Node → Option Bool) : Nat → Int → Str → Str → List T_api_Attr → List T_api_Node → Str → Int → Str → Str → List T_api_Attr → List T_api_Node → Str → Int → Option Bool
  | 0, _, _, _, _, _, _, _, _, _, _, _, _, _ => none
  | m35 + 1, y2_0_10, y2_1_11, y2_2_12, y2_3_13, y2_4_14, y2_5_15, y3_0_16, y3_1_17, y3_2_18, y3_3_19, y3_4_20, y3_5_21, x5_9 => (if (decide (x5_9 < (y2_3_13.length : Int))) = true then watchbillref04_Same.l1 k (watchbillref04_Same.l0 k self m35) x5_9 k y2_0_10 y2_1_11 y2_2_12 y2_3_13 y2_4_14 y2_5_15 y3_0_16 y3_1_17 y3_2_18 y3_3_19 y3_4_20 y3_5_21 0 0 0 else watchbillref04_Same.l3 k self k y2_0_10 y2_1_11 y2_2_12 y2_3_13 y2_4_14 y2_5_15 y3_0_16 y3_1_17 y3_2_18 y3_3_19 y3_4_20 y3_5_21 0)
def watchbillref04_Same : Nat → T_api_Node → T_api_Node → Option Bool
  | 0, _, _ => none
  | k + 1, a0, a1 => (if (((((a0.Kind != a1.Kind) || (!(a0.Name.Space == a1.Name.Space && (a0.Name.Local == a1.Name.Local && true)))) || (!(a0.Text == a1.Text))) || ((a0.Attrs.length : Int) != (a1.Attrs.length : Int))) || ((a0.Kids.length : Int) != (a1.Kids.length : Int))) = true then some false else watchbillref04_Same.l0 k (watchbillref04_Same k) k a0.Kind a0.Name.Space a0.Name.Local a0.Attrs a0.Kids a0.Text a1.Kind a1.Name.Space a1.Name.Local a1.Attrs a1.Kids a1.Text 0)
theorem watchbillref04_Same.ok {k : Nat} {a0 : T_api_Node} {a1 : T_api_Node} {r : Bool} (H : watchbillref04_Same k a0 a1 = some r) : Vx.Fn Try.prog 34 [(.agg (e_api_Node a0)), (.agg (e_api_Node a1))] [] (.v (.bool r)) [] := by
  induction k generalizing a0 a1 r with
  | zero => exact absurd H (by simp [watchbillref04_Same])
  | succ k ih =>
    unfold watchbillref04_Same at H
    refine Vx.Fn.of_okR Try.func34 rfl (Nat.le_of_ble_eq_true rfl) ?_
    refine Ok.seq ?_
    refine Ok.region (σ' := ⟨[(2, (.bref 2 0)), (3, (.bref 3 0))], [(2, (.box .ex (c_api_Node a0))), (3, (.box .ex (c_api_Node a1)))]⟩) ?_ ?_
    · refine OpsOk.cut1 0 (.agg [(.v (.int .i64 a0.Kind)), (S a0.Name.Space), (S a0.Name.Local), (L 3 e_api_Attr a0.Attrs), (L 6 e_api_Node a0.Kids), (S a0.Text)]) (DLe.of_eq (congrArg D.agg (e_api_Node_c _).symm)) ?_
      refine OpsOk.cons rfl (OpOk.box 2 (cells := [(.v (.int .i64 a0.Kind)), (S a0.Name.Space), (S a0.Name.Local), (L 3 e_api_Attr a0.Attrs), (L 6 e_api_Node a0.Kids), (S a0.Text)]) rfl rfl rfl rfl) ?_
      refine OpsOk.cut1 1 (.agg [(.v (.int .i64 a1.Kind)), (S a1.Name.Space), (S a1.Name.Local), (L 3 e_api_Attr a1.Attrs), (L 6 e_api_Node a1.Kids), (S a1.Text)]) (DLe.of_eq (congrArg D.agg (e_api_Node_c _).symm)) ?_
      refine OpsOk.cons rfl (OpOk.box 3 (cells := [(.v (.int .i64 a1.Kind)), (S a1.Name.Space), (S a1.Name.Local), (L 3 e_api_Attr a1.Attrs), (L 6 e_api_Node a1.Kids), (S a1.Text)]) rfl rfl rfl rfl) ?_
      refine .cv (VOk.asg (d := (.v (.bool false))) rfl rfl) rfl rfl ?_
      exact .done (.rf rfl rfl)
    refine Ok.seq ?_
    refine Ok.seq ?_
    refine Ok.region (σ' := ⟨[(2, (.bref 2 0)), (3, (.bref 3 0)), (46, (.v (.bool (((((a0.Kind != a1.Kind) || (!(a0.Name.Space == a1.Name.Space && (a0.Name.Local == a1.Name.Local && true)))) || (!(a0.Text == a1.Text))) || ((a0.Attrs.length : Int) != (a1.Attrs.length : Int))) || ((a0.Kids.length : Int) != (a1.Kids.length : Int))))))], [(2, (.box .ex (c_api_Node a0))), (3, (.box .ex (c_api_Node a1)))]⟩) ?_ ?_
    · refine .cv (VOk.to (VOk.fieldB rfl Try.underlying27 rfl sz3 rfl rfl) rfl) rfl rfl ?_
      refine .cv (VOk.loadB (d := (.v (.int .i64 a0.Kind))) rfl Try.underlying3 rfl rfl rfl rfl) rfl rfl ?_
      refine .cv (VOk.to (VOk.fieldB rfl Try.underlying27 rfl sz3 rfl rfl) rfl) rfl rfl ?_
      refine .cv (VOk.loadB (d := (.v (.int .i64 a1.Kind))) rfl Try.underlying3 rfl rfl rfl rfl) rfl rfl ?_
      refine .cv (VOk.arith (op := .neq) (k := .i64) (a := a0.Kind) (b := a1.Kind) rfl rfl rfl rfl) rfl rfl ?_
      refine .cv (VOk.mv (d := (.v (.bool (a0.Kind != a1.Kind)))) rfl rfl) rfl rfl ?_
      refine OpsOk.consI rfl rfl rfl (.one rfl) rfl (fun hw1 => (VOk.g (VOk.to (VOk.fieldB rfl Try.underlying27 rfl sz23 rfl rfl) rfl))) ?_
      refine OpsOk.consI rfl rfl rfl (.one rfl) rfl (fun hw1 => (GOk.fr (fr' := [(16, (.bref 2 1))]) ⟨DLe.of_eq (cT hw1).symm, trivial⟩ (VOk.g (VOk.to (d' := (.agg (e_api_Name a0.Name))) (.loadBAgg rfl Try.underlying23 rfl sz23 rfl rfl rfl) rfl)))) ?_
      refine OpsOk.consI rfl rfl rfl (.one rfl) rfl (fun hw1 => (VOk.g (VOk.to (VOk.fieldB rfl Try.underlying27 rfl sz23 rfl rfl) rfl))) ?_
      refine OpsOk.consI rfl rfl rfl (.one rfl) rfl (fun hw1 => (GOk.fr (fr' := [(18, (.bref 3 1))]) ⟨DLe.of_eq (cT hw1).symm, trivial⟩ (VOk.g (VOk.to (d' := (.agg (e_api_Name a1.Name))) (.loadBAgg rfl Try.underlying23 rfl sz23 rfl rfl rfl) rfl)))) ?_
      refine OpsOk.consI rfl rfl rfl (.one rfl) rfl (fun hw1 => (GOk.fr (fr' := [(17, (.agg (e_api_Name a0.Name))), (19, (.agg (e_api_Name a1.Name)))]) ⟨DLe.of_eq (cT hw1).symm, DLe.of_eq (cT hw1).symm, trivial⟩ (VOk.g (VOk.eqS' (op := .neq) (d := (.v (.bool (!(a0.Name.Space == a1.Name.Space && (a0.Name.Local == a1.Name.Local && true)))))) rfl (.inr rfl) (eqt23 9998) ag23 eg23 rfl rfl rfl rfl)))) ?_
      refine .cv (VOk.to (VOk.pickI (b := (a0.Kind != a1.Kind)) (p := true) (q := (!(a0.Name.Space == a1.Name.Space && (a0.Name.Local == a1.Name.Local && true)))) rfl rfl (fun hp2 => rfl) (fun hp2 => (cT (f_beq hp2)))) (pickOr (a0.Kind != a1.Kind) (!(a0.Name.Space == a1.Name.Space && (a0.Name.Local == a1.Name.Local && true))))) rfl rfl ?_
      refine .cv (VOk.mv (d := (.v (.bool ((a0.Kind != a1.Kind) || (!(a0.Name.Space == a1.Name.Space && (a0.Name.Local == a1.Name.Local && true))))))) rfl rfl) rfl rfl ?_
      refine OpsOk.consI rfl rfl rfl (.one rfl) rfl (fun hw3 => (VOk.g (VOk.to (VOk.fieldB rfl Try.underlying27 rfl sz9 rfl rfl) rfl))) ?_
      refine OpsOk.consI rfl rfl rfl (.one rfl) rfl (fun hw3 => (GOk.fr (fr' := [(23, (.bref 2 5))]) ⟨DLe.of_eq (cT hw3).symm, trivial⟩ (VOk.g (VOk.loadB (d := (S a0.Text)) rfl Try.underlying9 rfl rfl rfl rfl)))) ?_
      refine OpsOk.consI rfl rfl rfl (.one rfl) rfl (fun hw3 => (VOk.g (VOk.to (VOk.fieldB rfl Try.underlying27 rfl sz9 rfl rfl) rfl))) ?_
      refine OpsOk.consI rfl rfl rfl (.one rfl) rfl (fun hw3 => (GOk.fr (fr' := [(25, (.bref 3 5))]) ⟨DLe.of_eq (cT hw3).symm, trivial⟩ (VOk.g (VOk.loadB (d := (S a1.Text)) rfl Try.underlying9 rfl rfl rfl rfl)))) ?_
      refine OpsOk.consI rfl rfl rfl (.one rfl) rfl (fun hw3 => (GOk.fr (fr' := [(24, (S a0.Text)), (26, (S a1.Text))]) ⟨DLe.of_eq (cT hw3).symm, DLe.of_eq (cT hw3).symm, trivial⟩ (VOk.g (VOk.strOp (op := .neq) (a := a0.Text) (b := a1.Text) rfl rfl rfl rfl)))) ?_
      refine .cv (VOk.to (VOk.pickI (b := ((a0.Kind != a1.Kind) || (!(a0.Name.Space == a1.Name.Space && (a0.Name.Local == a1.Name.Local && true))))) (p := true) (q := (!(a0.Text == a1.Text))) rfl rfl (fun hp4 => rfl) (fun hp4 => (cT (f_beq hp4)))) (pickOr ((a0.Kind != a1.Kind) || (!(a0.Name.Space == a1.Name.Space && (a0.Name.Local == a1.Name.Local && true)))) (!(a0.Text == a1.Text)))) rfl rfl ?_
      refine .cv (VOk.mv (d := (.v (.bool (((a0.Kind != a1.Kind) || (!(a0.Name.Space == a1.Name.Space && (a0.Name.Local == a1.Name.Local && true)))) || (!(a0.Text == a1.Text)))))) rfl rfl) rfl rfl ?_
      refine OpsOk.consI rfl rfl rfl (.one rfl) rfl (fun hw5 => (VOk.g (VOk.to (VOk.fieldB rfl Try.underlying27 rfl sz24 rfl rfl) rfl))) ?_
      refine OpsOk.consI rfl rfl rfl (.one rfl) rfl (fun hw5 => (GOk.fr (fr' := [(30, (.bref 2 3))]) ⟨DLe.of_eq (cT hw5).symm, trivial⟩ (VOk.g (VOk.loadB (d := (L 3 e_api_Attr a0.Attrs)) rfl Try.underlying24 rfl rfl rfl rfl)))) ?_
      refine OpsOk.consI rfl rfl rfl (.one rfl) rfl (fun hw5 => (GOk.fr (fr' := [(31, (L 3 e_api_Attr a0.Attrs))]) ⟨DLe.of_eq (cT hw5).symm, trivial⟩ (VOk.g (VOk.lenL (e := e_api_Attr) (xs := a0.Attrs) rfl Try.underlying24 rfl)))) ?_
      refine OpsOk.consI rfl rfl rfl (.one rfl) rfl (fun hw5 => (VOk.g (VOk.to (VOk.fieldB rfl Try.underlying27 rfl sz24 rfl rfl) rfl))) ?_
      refine OpsOk.consI rfl rfl rfl (.one rfl) rfl (fun hw5 => (GOk.fr (fr' := [(33, (.bref 3 3))]) ⟨DLe.of_eq (cT hw5).symm, trivial⟩ (VOk.g (VOk.loadB (d := (L 3 e_api_Attr a1.Attrs)) rfl Try.underlying24 rfl rfl rfl rfl)))) ?_
      refine OpsOk.consI rfl rfl rfl (.one rfl) rfl (fun hw5 => (GOk.fr (fr' := [(34, (L 3 e_api_Attr a1.Attrs))]) ⟨DLe.of_eq (cT hw5).symm, trivial⟩ (VOk.g (VOk.lenL (e := e_api_Attr) (xs := a1.Attrs) rfl Try.underlying24 rfl)))) ?_
      refine OpsOk.consI rfl rfl rfl (.one rfl) rfl (fun hw5 => (GOk.fr (fr' := [(32, (.v (.int .i64 (a0.Attrs.length : Int)))), (35, (.v (.int .i64 (a1.Attrs.length : Int))))]) ⟨DLe.of_eq (cT hw5).symm, DLe.of_eq (cT hw5).symm, trivial⟩ (VOk.g (VOk.arith (op := .neq) (k := .i64) (a := (a0.Attrs.length : Int)) (b := (a1.Attrs.length : Int)) rfl rfl rfl rfl)))) ?_
      refine .cv (VOk.to (VOk.pickI (b := (((a0.Kind != a1.Kind) || (!(a0.Name.Space == a1.Name.Space && (a0.Name.Local == a1.Name.Local && true)))) || (!(a0.Text == a1.Text)))) (p := true) (q := ((a0.Attrs.length : Int) != (a1.Attrs.length : Int))) rfl rfl (fun hp6 => rfl) (fun hp6 => (cT (f_beq hp6)))) (pickOr (((a0.Kind != a1.Kind) || (!(a0.Name.Space == a1.Name.Space && (a0.Name.Local == a1.Name.Local && true)))) || (!(a0.Text == a1.Text))) ((a0.Attrs.length : Int) != (a1.Attrs.length : Int)))) rfl rfl ?_
      refine .cv (VOk.mv (d := (.v (.bool ((((a0.Kind != a1.Kind) || (!(a0.Name.Space == a1.Name.Space && (a0.Name.Local == a1.Name.Local && true)))) || (!(a0.Text == a1.Text))) || ((a0.Attrs.length : Int) != (a1.Attrs.length : Int)))))) rfl rfl) rfl rfl ?_
      refine OpsOk.consI rfl rfl rfl (.one rfl) rfl (fun hw7 => (VOk.g (VOk.to (VOk.fieldB rfl Try.underlying27 rfl sz25 rfl rfl) rfl))) ?_
      refine OpsOk.consI rfl rfl rfl (.one rfl) rfl (fun hw7 => (GOk.fr (fr' := [(39, (.bref 2 4))]) ⟨DLe.of_eq (cT hw7).symm, trivial⟩ (VOk.g (VOk.loadB (d := (L 6 e_api_Node a0.Kids)) rfl Try.underlying25 rfl rfl rfl rfl)))) ?_
      refine OpsOk.consI rfl rfl rfl (.one rfl) rfl (fun hw7 => (GOk.fr (fr' := [(40, (L 6 e_api_Node a0.Kids))]) ⟨DLe.of_eq (cT hw7).symm, trivial⟩ (VOk.g (VOk.lenL (e := e_api_Node) (xs := a0.Kids) rfl Try.underlying25 rfl)))) ?_
      refine OpsOk.consI rfl rfl rfl (.one rfl) rfl (fun hw7 => (VOk.g (VOk.to (VOk.fieldB rfl Try.underlying27 rfl sz25 rfl rfl) rfl))) ?_
      refine OpsOk.consI rfl rfl rfl (.one rfl) rfl (fun hw7 => (GOk.fr (fr' := [(42, (.bref 3 4))]) ⟨DLe.of_eq (cT hw7).symm, trivial⟩ (VOk.g (VOk.loadB (d := (L 6 e_api_Node a1.Kids)) rfl Try.underlying25 rfl rfl rfl rfl)))) ?_
      refine OpsOk.consI rfl rfl rfl (.one rfl) rfl (fun hw7 => (GOk.fr (fr' := [(43, (L 6 e_api_Node a1.Kids))]) ⟨DLe.of_eq (cT hw7).symm, trivial⟩ (VOk.g (VOk.lenL (e := e_api_Node) (xs := a1.Kids) rfl Try.underlying25 rfl)))) ?_
      refine OpsOk.consI rfl rfl rfl (.one rfl) rfl (fun hw7 => (GOk.fr (fr' := [(41, (.v (.int .i64 (a0.Kids.length : Int)))), (44, (.v (.int .i64 (a1.Kids.length : Int))))]) ⟨DLe.of_eq (cT hw7).symm, DLe.of_eq (cT hw7).symm, trivial⟩ (VOk.g (VOk.arith (op := .neq) (k := .i64) (a := (a0.Kids.length : Int)) (b := (a1.Kids.length : Int)) rfl rfl rfl rfl)))) ?_
      refine .cv (VOk.to (VOk.pickI (b := ((((a0.Kind != a1.Kind) || (!(a0.Name.Space == a1.Name.Space && (a0.Name.Local == a1.Name.Local && true)))) || (!(a0.Text == a1.Text))) || ((a0.Attrs.length : Int) != (a1.Attrs.length : Int)))) (p := true) (q := ((a0.Kids.length : Int) != (a1.Kids.length : Int))) rfl rfl (fun hp8 => rfl) (fun hp8 => (cT (f_beq hp8)))) (pickOr ((((a0.Kind != a1.Kind) || (!(a0.Name.Space == a1.Name.Space && (a0.Name.Local == a1.Name.Local && true)))) || (!(a0.Text == a1.Text))) || ((a0.Attrs.length : Int) != (a1.Attrs.length : Int))) ((a0.Kids.length : Int) != (a1.Kids.length : Int)))) rfl rfl ?_
      exact .done (.rf rfl rfl)
    refine Ok.test (b := (((((a0.Kind != a1.Kind) || (!(a0.Name.Space == a1.Name.Space && (a0.Name.Local == a1.Name.Local && true)))) || (!(a0.Text == a1.Text))) || ((a0.Attrs.length : Int) != (a1.Attrs.length : Int))) || ((a0.Kids.length : Int) != (a1.Kids.length : Int)))) rfl (fun hb110 => ?_) (fun hb110 => ?_)
    · replace H := ifT H hb110
      refine Ok.seq ?_
      refine Ok.region (σ' := ⟨[(4, (.v (.bool false)))], []⟩) ?_ ?_
      · refine .cv (VOk.asg (d := (.v (.bool false))) rfl rfl) rfl rfl ?_
        exact .done (.rf rfl rfl)
      refine Ok.ret ?_
      obtain rfl := Option.some.inj H
      exact ⟨.inl rfl, ⟨_, (.cons (.tmp rfl) .nil), rfl⟩, trivial⟩
    · replace H := ifF H hb110
      refine Ok.skip ?_
      refine Ok.seq ?_
      refine Ok.seq ?_
      refine Ok.region (σ' := ⟨[(2, (.bref 2 0)), (3, (.bref 3 0)), (5, (.v (.int .i64 0)))], [(2, (.box .ex (c_api_Node a0))), (3, (.box .ex (c_api_Node a1)))]⟩) ?_ ?_
      · refine .cv (VOk.asg (d := (.v (.int .i64 0))) rfl rfl) rfl rfl ?_
        exact .done (.rf rfl rfl)
      refine Ok.block ?_
      refine Ok.le (σ' := ⟨[(2, (.bref 2 0)), (3, (.bref 3 0)), (5, (.v (.int .i64 0)))], [(2, (.box .ex (c_api_Node a0))), (3, (.box .ex (c_api_Node a1)))]⟩) (.rf rfl rfl) ?_
      refine Ok.loop (fun m35 σ => ∃ (y2_0_10 : Int) (y2_1_11 : Str) (y2_2_12 : Str) (y2_3_13 : List T_api_Attr) (y2_4_14 : List T_api_Node) (y2_5_15 : Str) (y3_0_16 : Int) (y3_1_17 : Str) (y3_2_18 : Str) (y3_3_19 : List T_api_Attr) (y3_4_20 : List T_api_Node) (y3_5_21 : Str) (x5_9 : Int), σ = ⟨[(2, (.bref 2 0)), (3, (.bref 3 0)), (5, (.v (.int .i64 x5_9)))], [(2, (.box .ex [(.v (.int .i64 y2_0_10)), (S y2_1_11), (S y2_2_12), (L 3 e_api_Attr y2_3_13), (L 6 e_api_Node y2_4_14), (S y2_5_15)])), (3, (.box .ex [(.v (.int .i64 y3_0_16)), (S y3_1_17), (S y3_2_18), (L 3 e_api_Attr y3_3_19), (L 6 e_api_Node y3_4_20), (S y3_5_21)]))]⟩ ∧ watchbillref04_Same.l0 k (watchbillref04_Same k) m35 y2_0_10 y2_1_11 y2_2_12 y2_3_13 y2_4_14 y2_5_15 y3_0_16 y3_1_17 y3_2_18 y3_3_19 y3_4_20 y3_5_21 x5_9 = some r) k ⟨a0.Kind, a0.Name.Space, a0.Name.Local, a0.Attrs, a0.Kids, a0.Text, a1.Kind, a1.Name.Space, a1.Name.Local, a1.Attrs, a1.Kids, a1.Text, 0, rfl, H⟩ ?_
      rintro m35 σ ⟨y2_0_10, y2_1_11, y2_2_12, y2_3_13, y2_4_14, y2_5_15, y3_0_16, y3_1_17, y3_2_18, y3_3_19, y3_4_20, y3_5_21, x5_9, rfl, H⟩
      cases m35 with
      | zero => exact absurd H (by simp [watchbillref04_Same.l0])
      | succ m35 =>
        unfold watchbillref04_Same.l0 at H
        refine Ok.seq ?_
        refine Ok.seq ?_
        refine Ok.region (σ' := ⟨[(2, (.bref 2 0)), (3, (.bref 3 0)), (5, (.v (.int .i64 x5_9))), (51, (.v (.bool (decide (x5_9 < (y2_3_13.length : Int))))))], [(2, (.box .ex [(.v (.int .i64 y2_0_10)), (S y2_1_11), (S y2_2_12), (L 3 e_api_Attr y2_3_13), (L 6 e_api_Node y2_4_14), (S y2_5_15)])), (3, (.box .ex [(.v (.int .i64 y3_0_16)), (S y3_1_17), (S y3_2_18), (L 3 e_api_Attr y3_3_19), (L 6 e_api_Node y3_4_20), (S y3_5_21)]))]⟩) ?_ ?_
        · refine .cv (VOk.mv (d := (.v (.int .i64 x5_9))) rfl rfl) rfl rfl ?_
          refine .cv (VOk.to (VOk.fieldB rfl Try.underlying27 rfl sz24 rfl rfl) rfl) rfl rfl ?_
          refine .cv (VOk.loadB (d := (L 3 e_api_Attr y2_3_13)) rfl Try.underlying24 rfl rfl rfl rfl) rfl rfl ?_
          refine .cv (VOk.lenL (e := e_api_Attr) (xs := y2_3_13) rfl Try.underlying24 rfl) rfl rfl ?_
          refine .cv (VOk.arith (op := .lss) (k := .i64) (a := x5_9) (b := (y2_3_13.length : Int)) rfl rfl rfl rfl) rfl rfl ?_
          exact .done (.rf rfl rfl)
        refine Ok.test (b := (decide (x5_9 < (y2_3_13.length : Int)))) rfl (fun hb109 => ?_) (fun hb109 => ?_)
        · replace H := ifT H hb109
          refine Ok.skip ?_
          refine Ok.seq ?_
          refine Ok.block ?_
          refine Ok.seq ?_
          refine Ok.region (σ' := ⟨[(2, (.bref 2 0)), (3, (.bref 3 0)), (5, (.v (.int .i64 x5_9))), (6, (.v (.int .i64 0))), (7, (.v (.int .i64 0)))], [(2, (.box .ex [(.v (.int .i64 y2_0_10)), (S y2_1_11), (S y2_2_12), (L 3 e_api_Attr y2_3_13), (L 6 e_api_Node y2_4_14), (S y2_5_15)])), (3, (.box .ex [(.v (.int .i64 y3_0_16)), (S y3_1_17), (S y3_2_18), (L 3 e_api_Attr y3_3_19), (L 6 e_api_Node y3_4_20), (S y3_5_21)]))]⟩) ?_ ?_
          · refine .cv (VOk.asg (d := (.v (.int .i64 0))) rfl rfl) rfl rfl ?_
            refine .cv (VOk.asg (d := (.v (.int .i64 0))) rfl rfl) rfl rfl ?_
            exact .done (.rf rfl rfl)
          refine Ok.seq ?_
          refine Ok.seq ?_
          refine Ok.region (σ' := ⟨[(2, (.bref 2 0)), (3, (.bref 3 0)), (5, (.v (.int .i64 x5_9))), (6, (.v (.int .i64 0))), (7, (.v (.int .i64 0))), (8, (.v (.int .i64 0)))], [(2, (.box .ex [(.v (.int .i64 y2_0_10)), (S y2_1_11), (S y2_2_12), (L 3 e_api_Attr y2_3_13), (L 6 e_api_Node y2_4_14), (S y2_5_15)])), (3, (.box .ex [(.v (.int .i64 y3_0_16)), (S y3_1_17), (S y3_2_18), (L 3 e_api_Attr y3_3_19), (L 6 e_api_Node y3_4_20), (S y3_5_21)]))]⟩) ?_ ?_
          · refine .cv (VOk.asg (d := (.v (.int .i64 0))) rfl rfl) rfl rfl ?_
            exact .done (.rf rfl rfl)
          refine Ok.block ?_
          refine Ok.le (σ' := ⟨[(2, (.bref 2 0)), (3, (.bref 3 0)), (5, (.v (.int .i64 x5_9))), (6, (.v (.int .i64 0))), (7, (.v (.int .i64 0))), (8, (.v (.int .i64 0)))], [(2, (.box .ex [(.v (.int .i64 y2_0_10)), (S y2_1_11), (S y2_2_12), (L 3 e_api_Attr y2_3_13), (L 6 e_api_Node y2_4_14), (S y2_5_15)])), (3, (.box .ex [(.v (.int .i64 y3_0_16)), (S y3_1_17), (S y3_2_18), (L 3 e_api_Attr y3_3_19), (L 6 e_api_Node y3_4_20), (S y3_5_21)]))]⟩) (.rf rfl rfl) ?_
          refine Ok.loop (fun m66 σ => ∃ (y2_0_39 : Int) (y2_1_40 : Str) (y2_2_41 : Str) (y2_3_42 : List T_api_Attr) (y2_4_43 : List T_api_Node) (y2_5_44 : Str) (y3_0_45 : Int) (y3_1_46 : Str) (y3_2_47 : Str) (y3_3_48 : List T_api_Attr) (y3_4_49 : List T_api_Node) (y3_5_50 : Str) (x6_36 : Int) (x7_37 : Int) (x8_38 : Int), σ = ⟨[(2, (.bref 2 0)), (3, (.bref 3 0)), (5, (.v (.int .i64 x5_9))), (6, (.v (.int .i64 x6_36))), (7, (.v (.int .i64 x7_37))), (8, (.v (.int .i64 x8_38)))], [(2, (.box .ex [(.v (.int .i64 y2_0_39)), (S y2_1_40), (S y2_2_41), (L 3 e_api_Attr y2_3_42), (L 6 e_api_Node y2_4_43), (S y2_5_44)])), (3, (.box .ex [(.v (.int .i64 y3_0_45)), (S y3_1_46), (S y3_2_47), (L 3 e_api_Attr y3_3_48), (L 6 e_api_Node y3_4_49), (S y3_5_50)]))]⟩ ∧ watchbillref04_Same.l1 k (watchbillref04_Same.l0 k (watchbillref04_Same k) m35) x5_9 m66 y2_0_39 y2_1_40 y2_2_41 y2_3_42 y2_4_43 y2_5_44 y3_0_45 y3_1_46 y3_2_47 y3_3_48 y3_4_49 y3_5_50 x6_36 x7_37 x8_38 = some r) k ⟨y2_0_10, y2_1_11, y2_2_12, y2_3_13, y2_4_14, y2_5_15, y3_0_16, y3_1_17, y3_2_18, y3_3_19, y3_4_20, y3_5_21, 0, 0, 0, rfl, H⟩ ?_
          rintro m66 σ ⟨y2_0_39, y2_1_40, y2_2_41, y2_3_42, y2_4_43, y2_5_44, y3_0_45, y3_1_46, y3_2_47, y3_3_48, y3_4_49, y3_5_50, x6_36, x7_37, x8_38, rfl, H⟩
          cases m66 with
          | zero => exact absurd H (by simp [watchbillref04_Same.l1])
          | succ m66 =>
            unfold watchbillref04_Same.l1 at H
            refine Ok.seq ?_
            refine Ok.seq ?_
            refine Ok.region (σ' := ⟨[(2, (.bref 2 0)), (3, (.bref 3 0)), (5, (.v (.int .i64 x5_9))), (6, (.v (.int .i64 x6_36))), (7, (.v (.int .i64 x7_37))), (8, (.v (.int .i64 x8_38))), (58, (.v (.bool (decide (x8_38 < (y2_3_42.length : Int))))))], [(2, (.box .ex [(.v (.int .i64 y2_0_39)), (S y2_1_40), (S y2_2_41), (L 3 e_api_Attr y2_3_42), (L 6 e_api_Node y2_4_43), (S y2_5_44)])), (3, (.box .ex [(.v (.int .i64 y3_0_45)), (S y3_1_46), (S y3_2_47), (L 3 e_api_Attr y3_3_48), (L 6 e_api_Node y3_4_49), (S y3_5_50)]))]⟩) ?_ ?_
            · refine .cv (VOk.mv (d := (.v (.int .i64 x8_38))) rfl rfl) rfl rfl ?_
              refine .cv (VOk.to (VOk.fieldB rfl Try.underlying27 rfl sz24 rfl rfl) rfl) rfl rfl ?_
              refine .cv (VOk.loadB (d := (L 3 e_api_Attr y2_3_42)) rfl Try.underlying24 rfl rfl rfl rfl) rfl rfl ?_
              refine .cv (VOk.lenL (e := e_api_Attr) (xs := y2_3_42) rfl Try.underlying24 rfl) rfl rfl ?_
              refine .cv (VOk.arith (op := .lss) (k := .i64) (a := x8_38) (b := (y2_3_42.length : Int)) rfl rfl rfl rfl) rfl rfl ?_
              exact .done (.rf rfl rfl)
            refine Ok.test (b := (decide (x8_38 < (y2_3_42.length : Int)))) rfl (fun hb75 => ?_) (fun hb75 => ?_)
            · replace H := ifT H hb75
              refine Ok.skip ?_
              refine Ok.seq ?_
              refine Ok.block ?_
              refine Ok.meet (fun σ => ∃ (x6_67 : Int), σ = ⟨[(2, (.bref 2 0)), (3, (.bref 3 0)), (5, (.v (.int .i64 x5_9))), (6, (.v (.int .i64 x6_67))), (7, (.v (.int .i64 x7_37))), (8, (.v (.int .i64 x8_38)))], [(2, (.box .ex [(.v (.int .i64 y2_0_39)), (S y2_1_40), (S y2_2_41), (L 3 e_api_Attr y2_3_42), (L 6 e_api_Node y2_4_43), (S y2_5_44)])), (3, (.box .ex [(.v (.int .i64 y3_0_45)), (S y3_1_46), (S y3_2_47), (L 3 e_api_Attr y3_3_48), (L 6 e_api_Node y3_4_49), (S y3_5_50)]))]⟩ ∧ watchbillref04_Same.j2 (watchbillref04_Same.l1 k (watchbillref04_Same.l0 k (watchbillref04_Same k) m35) x5_9 m66) x5_9 y2_0_39 y2_1_40 y2_2_41 y2_3_42 y2_4_43 y2_5_44 y3_0_45 y3_1_46 y3_2_47 y3_3_48 y3_4_49 y3_5_50 x7_37 x8_38 x6_67 = some r) ?_ ?_
              · refine Ok.seq ?_
                obtain ⟨c71, H⟩ := assertE H
                obtain ⟨c72, H⟩ := assertE H
                refine Ok.drawE (σ' := ⟨[(2, (.bref 2 0)), (3, (.bref 3 0)), (5, (.v (.int .i64 x5_9))), (6, (.v (.int .i64 x6_36))), (7, (.v (.int .i64 x7_37))), (8, (.v (.int .i64 x8_38))), (71, (.v (.bool ((rd y2_3_42 x8_38).Name.Space == (rd y2_3_42 x5_9).Name.Space && ((rd y2_3_42 x8_38).Name.Local == (rd y2_3_42 x5_9).Name.Local && ((rd y2_3_42 x8_38).Value == (rd y2_3_42 x5_9).Value && true))))))], [(2, (.box .ex [(.v (.int .i64 y2_0_39)), (S y2_1_40), (S y2_2_41), (L 3 e_api_Attr y2_3_42), (L 6 e_api_Node y2_4_43), (S y2_5_44)])), (3, (.box .ex [(.v (.int .i64 y3_0_45)), (S y3_1_46), (S y3_2_47), (L 3 e_api_Attr y3_3_48), (L 6 e_api_Node y3_4_49), (S y3_5_50)]))]⟩) [⟨true, [(2, (.bref 2 0))], (.bref 2 3)⟩, ⟨true, [(61, (.bref 2 3))], (L 3 e_api_Attr y2_3_42)⟩, ⟨true, [(8, (.v (.int .i64 x8_38)))], (.v (.int .i64 x8_38))⟩, ⟨true, [(62, (L 3 e_api_Attr y2_3_42)), (63, (.v (.int .i64 x8_38)))], (.fp (e_api_Attr (rd y2_3_42 x8_38)) 0)⟩, ⟨true, [(64, (.fp (e_api_Attr (rd y2_3_42 x8_38)) 0))], (.agg (e_api_Attr (rd y2_3_42 x8_38)))⟩, ⟨true, [(2, (.bref 2 0))], (.bref 2 3)⟩, ⟨true, [(66, (.bref 2 3))], (L 3 e_api_Attr y2_3_42)⟩, ⟨true, [(5, (.v (.int .i64 x5_9)))], (.v (.int .i64 x5_9))⟩, ⟨true, [(67, (L 3 e_api_Attr y2_3_42)), (68, (.v (.int .i64 x5_9)))], (.fp (e_api_Attr (rd y2_3_42 x5_9)) 0)⟩, ⟨true, [(69, (.fp (e_api_Attr (rd y2_3_42 x5_9)) 0))], (.agg (e_api_Attr (rd y2_3_42 x5_9)))⟩, ⟨true, [(65, (.agg (e_api_Attr (rd y2_3_42 x8_38)))), (70, (.agg (e_api_Attr (rd y2_3_42 x5_9))))], (.v (.bool ((rd y2_3_42 x8_38).Name.Space == (rd y2_3_42 x5_9).Name.Space && ((rd y2_3_42 x8_38).Name.Local == (rd y2_3_42 x5_9).Name.Local && ((rd y2_3_42 x8_38).Value == (rd y2_3_42 x5_9).Value && true)))))⟩] [[], [0], [], [1, 2], [3], [], [5], [], [6, 7], [8], [4, 9]] mixed (by kernel_rfl) ?_ ?_
                · refine TxtE.cons rfl ⟨.same _, trivial⟩ rfl (VOk.g (VOk.to (VOk.fieldB rfl Try.underlying27 rfl sz24 rfl rfl) rfl)) ?_
                  refine TxtE.cons rfl ⟨.same _, trivial⟩ rfl (VOk.g (VOk.loadB (d := (L 3 e_api_Attr y2_3_42)) rfl Try.underlying24 rfl rfl rfl rfl)) ?_
                  refine TxtE.cons rfl ⟨.same _, trivial⟩ rfl (VOk.g (VOk.mv (d := (.v (.int .i64 x8_38))) rfl rfl)) ?_
                  refine TxtE.cons rfl ⟨.same _, .same _, trivial⟩ rfl (VOk.g (VOk.indexL (sz := 3) (e := e_api_Attr) (xs := y2_3_42) (i := x8_38) rfl Try.underlying24 sz47 rfl rfl c71)) ?_
                  refine TxtE.cons rfl ⟨.same _, trivial⟩ rfl (VOk.g (VOk.to (d' := (.agg (e_api_Attr (rd y2_3_42 x8_38)))) (.loadFpAgg rfl Try.underlying47 rfl sz47 rfl rfl) rfl)) ?_
                  refine TxtE.cons rfl ⟨.same _, trivial⟩ rfl (VOk.g (VOk.to (VOk.fieldB rfl Try.underlying27 rfl sz24 rfl rfl) rfl)) ?_
                  refine TxtE.cons rfl ⟨.same _, trivial⟩ rfl (VOk.g (VOk.loadB (d := (L 3 e_api_Attr y2_3_42)) rfl Try.underlying24 rfl rfl rfl rfl)) ?_
                  refine TxtE.cons rfl ⟨.same _, trivial⟩ rfl (VOk.g (VOk.mv (d := (.v (.int .i64 x5_9))) rfl rfl)) ?_
                  refine TxtE.cons rfl ⟨.same _, .same _, trivial⟩ rfl (VOk.g (VOk.indexL (sz := 3) (e := e_api_Attr) (xs := y2_3_42) (i := x5_9) rfl Try.underlying24 sz47 rfl rfl c72)) ?_
                  refine TxtE.cons rfl ⟨.same _, trivial⟩ rfl (VOk.g (VOk.to (d' := (.agg (e_api_Attr (rd y2_3_42 x5_9)))) (.loadFpAgg rfl Try.underlying47 rfl sz47 rfl rfl) rfl)) ?_
                  refine TxtE.cons rfl ⟨.same _, .same _, trivial⟩ rfl (VOk.g (VOk.eqS' (op := .eql) (d := (.v (.bool ((rd y2_3_42 x8_38).Name.Space == (rd y2_3_42 x5_9).Name.Space && ((rd y2_3_42 x8_38).Name.Local == (rd y2_3_42 x5_9).Name.Local && ((rd y2_3_42 x8_38).Value == (rd y2_3_42 x5_9).Value && true)))))) rfl (.inl rfl) (eqt47 9997) ag47 eg47 rfl rfl rfl rfl)) ?_
                  exact .done (.rf rfl rfl)
                refine Ok.test (b := ((rd y2_3_42 x8_38).Name.Space == (rd y2_3_42 x5_9).Name.Space && ((rd y2_3_42 x8_38).Name.Local == (rd y2_3_42 x5_9).Name.Local && ((rd y2_3_42 x8_38).Value == (rd y2_3_42 x5_9).Value && true)))) rfl (fun hb73 => ?_) (fun hb73 => ?_)
                · replace H := ifT H hb73
                  refine Ok.region (σ' := ⟨[(2, (.bref 2 0)), (3, (.bref 3 0)), (5, (.v (.int .i64 x5_9))), (6, (.v (.int .i64 (IntKind.i64.wrap (x6_36 + 1))))), (7, (.v (.int .i64 x7_37))), (8, (.v (.int .i64 x8_38)))], [(2, (.box .ex [(.v (.int .i64 y2_0_39)), (S y2_1_40), (S y2_2_41), (L 3 e_api_Attr y2_3_42), (L 6 e_api_Node y2_4_43), (S y2_5_44)])), (3, (.box .ex [(.v (.int .i64 y3_0_45)), (S y3_1_46), (S y3_2_47), (L 3 e_api_Attr y3_3_48), (L 6 e_api_Node y3_4_49), (S y3_5_50)]))]⟩) ?_ ?_
                  · refine .cv (VOk.mv (d := (.v (.int .i64 x6_36))) rfl rfl) rfl rfl ?_
                    refine .cv (VOk.arith (op := .add) (k := .i64) (a := x6_36) (b := 1) rfl rfl rfl rfl) rfl rfl ?_
                    refine .cv (VOk.asg (d := (.v (.int .i64 (IntKind.i64.wrap (x6_36 + 1))))) rfl rfl) rfl rfl ?_
                    exact .done (.rf rfl rfl)
                  exact ⟨(IntKind.i64.wrap (x6_36 + 1)), rfl, H⟩
                · replace H := ifF H hb73
                  refine Ok.le (σ' := ⟨[(2, (.bref 2 0)), (3, (.bref 3 0)), (5, (.v (.int .i64 x5_9))), (6, (.v (.int .i64 x6_36))), (7, (.v (.int .i64 x7_37))), (8, (.v (.int .i64 x8_38)))], [(2, (.box .ex [(.v (.int .i64 y2_0_39)), (S y2_1_40), (S y2_2_41), (L 3 e_api_Attr y2_3_42), (L 6 e_api_Node y2_4_43), (S y2_5_44)])), (3, (.box .ex [(.v (.int .i64 y3_0_45)), (S y3_1_46), (S y3_2_47), (L 3 e_api_Attr y3_3_48), (L 6 e_api_Node y3_4_49), (S y3_5_50)]))]⟩) (.rf rfl rfl) ?_
                  refine Ok.skip ?_
                  exact ⟨x6_36, rfl, H⟩
              · rintro σ ⟨x6_67, rfl, H⟩
                unfold watchbillref04_Same.j2 at H
                refine Ok.seq ?_
                obtain ⟨c68, H⟩ := assertE H
                obtain ⟨c69, H⟩ := assertE H
                refine Ok.drawE (σ' := ⟨[(2, (.bref 2 0)), (3, (.bref 3 0)), (5, (.v (.int .i64 x5_9))), (6, (.v (.int .i64 x6_67))), (7, (.v (.int .i64 x7_37))), (8, (.v (.int .i64 x8_38))), (84, (.v (.bool ((rd y3_3_48 x8_38).Name.Space == (rd y2_3_42 x5_9).Name.Space && ((rd y3_3_48 x8_38).Name.Local == (rd y2_3_42 x5_9).Name.Local && ((rd y3_3_48 x8_38).Value == (rd y2_3_42 x5_9).Value && true))))))], [(2, (.box .ex [(.v (.int .i64 y2_0_39)), (S y2_1_40), (S y2_2_41), (L 3 e_api_Attr y2_3_42), (L 6 e_api_Node y2_4_43), (S y2_5_44)])), (3, (.box .ex [(.v (.int .i64 y3_0_45)), (S y3_1_46), (S y3_2_47), (L 3 e_api_Attr y3_3_48), (L 6 e_api_Node y3_4_49), (S y3_5_50)]))]⟩) [⟨true, [(3, (.bref 3 0))], (.bref 3 3)⟩, ⟨true, [(74, (.bref 3 3))], (L 3 e_api_Attr y3_3_48)⟩, ⟨true, [(8, (.v (.int .i64 x8_38)))], (.v (.int .i64 x8_38))⟩, ⟨true, [(75, (L 3 e_api_Attr y3_3_48)), (76, (.v (.int .i64 x8_38)))], (.fp (e_api_Attr (rd y3_3_48 x8_38)) 0)⟩, ⟨true, [(77, (.fp (e_api_Attr (rd y3_3_48 x8_38)) 0))], (.agg (e_api_Attr (rd y3_3_48 x8_38)))⟩, ⟨true, [(2, (.bref 2 0))], (.bref 2 3)⟩, ⟨true, [(79, (.bref 2 3))], (L 3 e_api_Attr y2_3_42)⟩, ⟨true, [(5, (.v (.int .i64 x5_9)))], (.v (.int .i64 x5_9))⟩, ⟨true, [(80, (L 3 e_api_Attr y2_3_42)), (81, (.v (.int .i64 x5_9)))], (.fp (e_api_Attr (rd y2_3_42 x5_9)) 0)⟩, ⟨true, [(82, (.fp (e_api_Attr (rd y2_3_42 x5_9)) 0))], (.agg (e_api_Attr (rd y2_3_42 x5_9)))⟩, ⟨true, [(78, (.agg (e_api_Attr (rd y3_3_48 x8_38)))), (83, (.agg (e_api_Attr (rd y2_3_42 x5_9))))], (.v (.bool ((rd y3_3_48 x8_38).Name.Space == (rd y2_3_42 x5_9).Name.Space && ((rd y3_3_48 x8_38).Name.Local == (rd y2_3_42 x5_9).Name.Local && ((rd y3_3_48 x8_38).Value == (rd y2_3_42 x5_9).Value && true)))))⟩] [[], [0], [], [1, 2], [3], [], [5], [], [6, 7], [8], [4, 9]] mixed (by kernel_rfl) ?_ ?_
                · refine TxtE.cons rfl ⟨.same _, trivial⟩ rfl (VOk.g (VOk.to (VOk.fieldB rfl Try.underlying27 rfl sz24 rfl rfl) rfl)) ?_
                  refine TxtE.cons rfl ⟨.same _, trivial⟩ rfl (VOk.g (VOk.loadB (d := (L 3 e_api_Attr y3_3_48)) rfl Try.underlying24 rfl rfl rfl rfl)) ?_
                  refine TxtE.cons rfl ⟨.same _, trivial⟩ rfl (VOk.g (VOk.mv (d := (.v (.int .i64 x8_38))) rfl rfl)) ?_
                  refine TxtE.cons rfl ⟨.same _, .same _, trivial⟩ rfl (VOk.g (VOk.indexL (sz := 3) (e := e_api_Attr) (xs := y3_3_48) (i := x8_38) rfl Try.underlying24 sz47 rfl rfl c68)) ?_
                  refine TxtE.cons rfl ⟨.same _, trivial⟩ rfl (VOk.g (VOk.to (d' := (.agg (e_api_Attr (rd y3_3_48 x8_38)))) (.loadFpAgg rfl Try.underlying47 rfl sz47 rfl rfl) rfl)) ?_
                  refine TxtE.cons rfl ⟨.same _, trivial⟩ rfl (VOk.g (VOk.to (VOk.fieldB rfl Try.underlying27 rfl sz24 rfl rfl) rfl)) ?_
                  refine TxtE.cons rfl ⟨.same _, trivial⟩ rfl (VOk.g (VOk.loadB (d := (L 3 e_api_Attr y2_3_42)) rfl Try.underlying24 rfl rfl rfl rfl)) ?_
                  refine TxtE.cons rfl ⟨.same _, trivial⟩ rfl (VOk.g (VOk.mv (d := (.v (.int .i64 x5_9))) rfl rfl)) ?_
                  refine TxtE.cons rfl ⟨.same _, .same _, trivial⟩ rfl (VOk.g (VOk.indexL (sz := 3) (e := e_api_Attr) (xs := y2_3_42) (i := x5_9) rfl Try.underlying24 sz47 rfl rfl c69)) ?_
                  refine TxtE.cons rfl ⟨.same _, trivial⟩ rfl (VOk.g (VOk.to (d' := (.agg (e_api_Attr (rd y2_3_42 x5_9)))) (.loadFpAgg rfl Try.underlying47 rfl sz47 rfl rfl) rfl)) ?_
                  refine TxtE.cons rfl ⟨.same _, .same _, trivial⟩ rfl (VOk.g (VOk.eqS' (op := .eql) (d := (.v (.bool ((rd y3_3_48 x8_38).Name.Space == (rd y2_3_42 x5_9).Name.Space && ((rd y3_3_48 x8_38).Name.Local == (rd y2_3_42 x5_9).Name.Local && ((rd y3_3_48 x8_38).Value == (rd y2_3_42 x5_9).Value && true)))))) rfl (.inl rfl) (eqt47 9997) ag47 eg47 rfl rfl rfl rfl)) ?_
                  exact .done (.rf rfl rfl)
                refine Ok.test (b := ((rd y3_3_48 x8_38).Name.Space == (rd y2_3_42 x5_9).Name.Space && ((rd y3_3_48 x8_38).Name.Local == (rd y2_3_42 x5_9).Name.Local && ((rd y3_3_48 x8_38).Value == (rd y2_3_42 x5_9).Value && true)))) rfl (fun hb70 => ?_) (fun hb70 => ?_)
                · replace H := ifT H hb70
                  refine Ok.region (σ' := ⟨[(2, (.bref 2 0)), (3, (.bref 3 0)), (5, (.v (.int .i64 x5_9))), (6, (.v (.int .i64 x6_67))), (7, (.v (.int .i64 (IntKind.i64.wrap (x7_37 + 1))))), (8, (.v (.int .i64 x8_38)))], [(2, (.box .ex [(.v (.int .i64 y2_0_39)), (S y2_1_40), (S y2_2_41), (L 3 e_api_Attr y2_3_42), (L 6 e_api_Node y2_4_43), (S y2_5_44)])), (3, (.box .ex [(.v (.int .i64 y3_0_45)), (S y3_1_46), (S y3_2_47), (L 3 e_api_Attr y3_3_48), (L 6 e_api_Node y3_4_49), (S y3_5_50)]))]⟩) ?_ ?_
                  · refine .cv (VOk.mv (d := (.v (.int .i64 x7_37))) rfl rfl) rfl rfl ?_
                    refine .cv (VOk.arith (op := .add) (k := .i64) (a := x7_37) (b := 1) rfl rfl rfl rfl) rfl rfl ?_
                    refine .cv (VOk.asg (d := (.v (.int .i64 (IntKind.i64.wrap (x7_37 + 1))))) rfl rfl) rfl rfl ?_
                    exact .done (.rf rfl rfl)
                  refine Ok.region (σ' := ⟨[(2, (.bref 2 0)), (3, (.bref 3 0)), (5, (.v (.int .i64 x5_9))), (6, (.v (.int .i64 x6_67))), (7, (.v (.int .i64 (IntKind.i64.wrap (x7_37 + 1))))), (8, (.v (.int .i64 (IntKind.i64.wrap (x8_38 + 1)))))], [(2, (.box .ex [(.v (.int .i64 y2_0_39)), (S y2_1_40), (S y2_2_41), (L 3 e_api_Attr y2_3_42), (L 6 e_api_Node y2_4_43), (S y2_5_44)])), (3, (.box .ex [(.v (.int .i64 y3_0_45)), (S y3_1_46), (S y3_2_47), (L 3 e_api_Attr y3_3_48), (L 6 e_api_Node y3_4_49), (S y3_5_50)]))]⟩) ?_ ?_
                  · refine .cv (VOk.mv (d := (.v (.int .i64 x8_38))) rfl rfl) rfl rfl ?_
                    refine .cv (VOk.arith (op := .add) (k := .i64) (a := x8_38) (b := 1) rfl rfl rfl rfl) rfl rfl ?_
                    refine .cv (VOk.asg (d := (.v (.int .i64 (IntKind.i64.wrap (x8_38 + 1))))) rfl rfl) rfl rfl ?_
                    exact .done (.rf rfl rfl)
                  exact ⟨m66, Nat.lt_succ_self m66, y2_0_39, y2_1_40, y2_2_41, y2_3_42, y2_4_43, y2_5_44, y3_0_45, y3_1_46, y3_2_47, y3_3_48, y3_4_49, y3_5_50, x6_67, (IntKind.i64.wrap (x7_37 + 1)), (IntKind.i64.wrap (x8_38 + 1)), rfl, H⟩
                · replace H := ifF H hb70
                  refine Ok.skip ?_
                  refine Ok.region (σ' := ⟨[(2, (.bref 2 0)), (3, (.bref 3 0)), (5, (.v (.int .i64 x5_9))), (6, (.v (.int .i64 x6_67))), (7, (.v (.int .i64 x7_37))), (8, (.v (.int .i64 (IntKind.i64.wrap (x8_38 + 1)))))], [(2, (.box .ex [(.v (.int .i64 y2_0_39)), (S y2_1_40), (S y2_2_41), (L 3 e_api_Attr y2_3_42), (L 6 e_api_Node y2_4_43), (S y2_5_44)])), (3, (.box .ex [(.v (.int .i64 y3_0_45)), (S y3_1_46), (S y3_2_47), (L 3 e_api_Attr y3_3_48), (L 6 e_api_Node y3_4_49), (S y3_5_50)]))]⟩) ?_ ?_
                  · refine .cv (VOk.mv (d := (.v (.int .i64 x8_38))) rfl rfl) rfl rfl ?_
                    refine .cv (VOk.arith (op := .add) (k := .i64) (a := x8_38) (b := 1) rfl rfl rfl rfl) rfl rfl ?_
                    refine .cv (VOk.asg (d := (.v (.int .i64 (IntKind.i64.wrap (x8_38 + 1))))) rfl rfl) rfl rfl ?_
                    exact .done (.rf rfl rfl)
                  exact ⟨m66, Nat.lt_succ_self m66, y2_0_39, y2_1_40, y2_2_41, y2_3_42, y2_4_43, y2_5_44, y3_0_45, y3_1_46, y3_2_47, y3_3_48, y3_4_49, y3_5_50, x6_67, x7_37, (IntKind.i64.wrap (x8_38 + 1)), rfl, H⟩
            · replace H := ifF H hb75
              refine Ok.exit ?_
              refine Ok.seq ?_
              refine Ok.region (σ' := ⟨[(2, (.bref 2 0)), (3, (.bref 3 0)), (5, (.v (.int .i64 x5_9))), (89, (.v (.bool (x6_36 != x7_37))))], [(2, (.box .ex [(.v (.int .i64 y2_0_39)), (S y2_1_40), (S y2_2_41), (L 3 e_api_Attr y2_3_42), (L 6 e_api_Node y2_4_43), (S y2_5_44)])), (3, (.box .ex [(.v (.int .i64 y3_0_45)), (S y3_1_46), (S y3_2_47), (L 3 e_api_Attr y3_3_48), (L 6 e_api_Node y3_4_49), (S y3_5_50)]))]⟩) ?_ ?_
              · refine .cv (VOk.mv (d := (.v (.int .i64 x6_36))) rfl rfl) rfl rfl ?_
                refine .cv (VOk.mv (d := (.v (.int .i64 x7_37))) rfl rfl) rfl rfl ?_
                refine .cv (VOk.arith (op := .neq) (k := .i64) (a := x6_36) (b := x7_37) rfl rfl rfl rfl) rfl rfl ?_
                exact .done (.rf rfl rfl)
              refine Ok.test (b := (x6_36 != x7_37)) rfl (fun hb74 => ?_) (fun hb74 => ?_)
              · replace H := ifT H hb74
                refine Ok.seq ?_
                refine Ok.region (σ' := ⟨[(4, (.v (.bool false)))], []⟩) ?_ ?_
                · refine .cv (VOk.asg (d := (.v (.bool false))) rfl rfl) rfl rfl ?_
                  exact .done (.rf rfl rfl)
                refine Ok.ret ?_
                obtain rfl := Option.some.inj H
                exact ⟨.inl rfl, ⟨_, (.cons (.tmp rfl) .nil), rfl⟩, trivial⟩
              · replace H := ifF H hb74
                refine Ok.skip ?_
                refine Ok.region (σ' := ⟨[(2, (.bref 2 0)), (3, (.bref 3 0)), (5, (.v (.int .i64 (IntKind.i64.wrap (x5_9 + 1)))))], [(2, (.box .ex [(.v (.int .i64 y2_0_39)), (S y2_1_40), (S y2_2_41), (L 3 e_api_Attr y2_3_42), (L 6 e_api_Node y2_4_43), (S y2_5_44)])), (3, (.box .ex [(.v (.int .i64 y3_0_45)), (S y3_1_46), (S y3_2_47), (L 3 e_api_Attr y3_3_48), (L 6 e_api_Node y3_4_49), (S y3_5_50)]))]⟩) ?_ ?_
                · refine .cv (VOk.mv (d := (.v (.int .i64 x5_9))) rfl rfl) rfl rfl ?_
                  refine .cv (VOk.arith (op := .add) (k := .i64) (a := x5_9) (b := 1) rfl rfl rfl rfl) rfl rfl ?_
                  refine .cv (VOk.asg (d := (.v (.int .i64 (IntKind.i64.wrap (x5_9 + 1))))) rfl rfl) rfl rfl ?_
                  exact .done (.rf rfl rfl)
                exact ⟨m35, Nat.lt_succ_self m35, y2_0_39, y2_1_40, y2_2_41, y2_3_42, y2_4_43, y2_5_44, y3_0_45, y3_1_46, y3_2_47, y3_3_48, y3_4_49, y3_5_50, (IntKind.i64.wrap (x5_9 + 1)), rfl, H⟩
        · replace H := ifF H hb109
          refine Ok.exit ?_
          refine Ok.seq ?_
          refine Ok.seq ?_
          refine Ok.region (σ' := ⟨[(2, (.bref 2 0)), (3, (.bref 3 0)), (9, (.v (.int .i64 0)))], [(2, (.box .ex [(.v (.int .i64 y2_0_10)), (S y2_1_11), (S y2_2_12), (L 3 e_api_Attr y2_3_13), (L 6 e_api_Node y2_4_14), (S y2_5_15)])), (3, (.box .ex [(.v (.int .i64 y3_0_16)), (S y3_1_17), (S y3_2_18), (L 3 e_api_Attr y3_3_19), (L 6 e_api_Node y3_4_20), (S y3_5_21)]))]⟩) ?_ ?_
          · refine .cv (VOk.asg (d := (.v (.int .i64 0))) rfl rfl) rfl rfl ?_
            exact .done (.rf rfl rfl)
          refine Ok.block ?_
          refine Ok.le (σ' := ⟨[(2, (.bref 2 0)), (3, (.bref 3 0)), (9, (.v (.int .i64 0)))], [(2, (.box .ex [(.v (.int .i64 y2_0_10)), (S y2_1_11), (S y2_2_12), (L 3 e_api_Attr y2_3_13), (L 6 e_api_Node y2_4_14), (S y2_5_15)])), (3, (.box .ex [(.v (.int .i64 y3_0_16)), (S y3_1_17), (S y3_2_18), (L 3 e_api_Attr y3_3_19), (L 6 e_api_Node y3_4_20), (S y3_5_21)]))]⟩) (.rf rfl rfl) ?_
          refine Ok.loop (fun m102 σ => ∃ (y2_0_77 : Int) (y2_1_78 : Str) (y2_2_79 : Str) (y2_3_80 : List T_api_Attr) (y2_4_81 : List T_api_Node) (y2_5_82 : Str) (y3_0_83 : Int) (y3_1_84 : Str) (y3_2_85 : Str) (y3_3_86 : List T_api_Attr) (y3_4_87 : List T_api_Node) (y3_5_88 : Str) (x9_76 : Int), σ = ⟨[(2, (.bref 2 0)), (3, (.bref 3 0)), (9, (.v (.int .i64 x9_76)))], [(2, (.box .ex [(.v (.int .i64 y2_0_77)), (S y2_1_78), (S y2_2_79), (L 3 e_api_Attr y2_3_80), (L 6 e_api_Node y2_4_81), (S y2_5_82)])), (3, (.box .ex [(.v (.int .i64 y3_0_83)), (S y3_1_84), (S y3_2_85), (L 3 e_api_Attr y3_3_86), (L 6 e_api_Node y3_4_87), (S y3_5_88)]))]⟩ ∧ watchbillref04_Same.l3 k (watchbillref04_Same k) m102 y2_0_77 y2_1_78 y2_2_79 y2_3_80 y2_4_81 y2_5_82 y3_0_83 y3_1_84 y3_2_85 y3_3_86 y3_4_87 y3_5_88 x9_76 = some r) k ⟨y2_0_10, y2_1_11, y2_2_12, y2_3_13, y2_4_14, y2_5_15, y3_0_16, y3_1_17, y3_2_18, y3_3_19, y3_4_20, y3_5_21, 0, rfl, H⟩ ?_
          rintro m102 σ ⟨y2_0_77, y2_1_78, y2_2_79, y2_3_80, y2_4_81, y2_5_82, y3_0_83, y3_1_84, y3_2_85, y3_3_86, y3_4_87, y3_5_88, x9_76, rfl, H⟩
          cases m102 with
          | zero => exact absurd H (by simp [watchbillref04_Same.l3])
          | succ m102 =>
            unfold watchbillref04_Same.l3 at H
            refine Ok.seq ?_
            refine Ok.seq ?_
            refine Ok.region (σ' := ⟨[(2, (.bref 2 0)), (3, (.bref 3 0)), (9, (.v (.int .i64 x9_76))), (94, (.v (.bool (decide (x9_76 < (y2_4_81.length : Int))))))], [(2, (.box .ex [(.v (.int .i64 y2_0_77)), (S y2_1_78), (S y2_2_79), (L 3 e_api_Attr y2_3_80), (L 6 e_api_Node y2_4_81), (S y2_5_82)])), (3, (.box .ex [(.v (.int .i64 y3_0_83)), (S y3_1_84), (S y3_2_85), (L 3 e_api_Attr y3_3_86), (L 6 e_api_Node y3_4_87), (S y3_5_88)]))]⟩) ?_ ?_
            · refine .cv (VOk.mv (d := (.v (.int .i64 x9_76))) rfl rfl) rfl rfl ?_
              refine .cv (VOk.to (VOk.fieldB rfl Try.underlying27 rfl sz25 rfl rfl) rfl) rfl rfl ?_
              refine .cv (VOk.loadB (d := (L 6 e_api_Node y2_4_81)) rfl Try.underlying25 rfl rfl rfl rfl) rfl rfl ?_
              refine .cv (VOk.lenL (e := e_api_Node) (xs := y2_4_81) rfl Try.underlying25 rfl) rfl rfl ?_
              refine .cv (VOk.arith (op := .lss) (k := .i64) (a := x9_76) (b := (y2_4_81.length : Int)) rfl rfl rfl rfl) rfl rfl ?_
              exact .done (.rf rfl rfl)
            refine Ok.test (b := (decide (x9_76 < (y2_4_81.length : Int)))) rfl (fun hb108 => ?_) (fun hb108 => ?_)
            · replace H := ifT H hb108
              refine Ok.skip ?_
              refine Ok.seq ?_
              refine Ok.block ?_
              refine Ok.seq ?_
              obtain ⟨c103, H⟩ := assertE H
              obtain ⟨c104, H⟩ := assertE H
              obtain ⟨t105, h106, H⟩ := bindE H
              refine Ok.drawE (σ' := ⟨[(2, (.bref 2 0)), (3, (.bref 3 0)), (9, (.v (.int .i64 x9_76))), (108, (.v (.bool (!t105))))], [(2, (.box .ex [(.v (.int .i64 y2_0_77)), (S y2_1_78), (S y2_2_79), (L 3 e_api_Attr y2_3_80), (L 6 e_api_Node y2_4_81), (S y2_5_82)])), (3, (.box .ex [(.v (.int .i64 y3_0_83)), (S y3_1_84), (S y3_2_85), (L 3 e_api_Attr y3_3_86), (L 6 e_api_Node y3_4_87), (S y3_5_88)]))]⟩) [⟨true, [(2, (.bref 2 0))], (.bref 2 4)⟩, ⟨true, [(97, (.bref 2 4))], (L 6 e_api_Node y2_4_81)⟩, ⟨true, [(9, (.v (.int .i64 x9_76)))], (.v (.int .i64 x9_76))⟩, ⟨true, [(98, (L 6 e_api_Node y2_4_81)), (99, (.v (.int .i64 x9_76)))], (.fp (e_api_Node (rd y2_4_81 x9_76)) 0)⟩, ⟨true, [(100, (.fp (e_api_Node (rd y2_4_81 x9_76)) 0))], (.agg (e_api_Node (rd y2_4_81 x9_76)))⟩, ⟨true, [(3, (.bref 3 0))], (.bref 3 4)⟩, ⟨true, [(102, (.bref 3 4))], (L 6 e_api_Node y3_4_87)⟩, ⟨true, [(9, (.v (.int .i64 x9_76)))], (.v (.int .i64 x9_76))⟩, ⟨true, [(103, (L 6 e_api_Node y3_4_87)), (104, (.v (.int .i64 x9_76)))], (.fp (e_api_Node (rd y3_4_87 x9_76)) 0)⟩, ⟨true, [(105, (.fp (e_api_Node (rd y3_4_87 x9_76)) 0))], (.agg (e_api_Node (rd y3_4_87 x9_76)))⟩, ⟨true, [(101, (.agg (e_api_Node (rd y2_4_81 x9_76)))), (106, (.agg (e_api_Node (rd y3_4_87 x9_76))))], (.v (.bool t105))⟩, ⟨true, [(107, (.v (.bool t105)))], (.v (.bool (!t105)))⟩] [[], [0], [], [1, 2], [3], [], [5], [], [6, 7], [8], [4, 9], [10]] mixed (by kernel_rfl) ?_ ?_
              · refine TxtE.cons rfl ⟨.same _, trivial⟩ rfl (VOk.g (VOk.to (VOk.fieldB rfl Try.underlying27 rfl sz25 rfl rfl) rfl)) ?_
                refine TxtE.cons rfl ⟨.same _, trivial⟩ rfl (VOk.g (VOk.loadB (d := (L 6 e_api_Node y2_4_81)) rfl Try.underlying25 rfl rfl rfl rfl)) ?_
                refine TxtE.cons rfl ⟨.same _, trivial⟩ rfl (VOk.g (VOk.mv (d := (.v (.int .i64 x9_76))) rfl rfl)) ?_
                refine TxtE.cons rfl ⟨.same _, .same _, trivial⟩ rfl (VOk.g (VOk.indexL (sz := 6) (e := e_api_Node) (xs := y2_4_81) (i := x9_76) rfl Try.underlying25 sz27 rfl rfl c103)) ?_
                refine TxtE.cons rfl ⟨.same _, trivial⟩ rfl (VOk.g (VOk.to (d' := (.agg (e_api_Node (rd y2_4_81 x9_76)))) (.loadFpAgg rfl Try.underlying27 rfl sz27 rfl rfl) rfl)) ?_
                refine TxtE.cons rfl ⟨.same _, trivial⟩ rfl (VOk.g (VOk.to (VOk.fieldB rfl Try.underlying27 rfl sz25 rfl rfl) rfl)) ?_
                refine TxtE.cons rfl ⟨.same _, trivial⟩ rfl (VOk.g (VOk.loadB (d := (L 6 e_api_Node y3_4_87)) rfl Try.underlying25 rfl rfl rfl rfl)) ?_
                refine TxtE.cons rfl ⟨.same _, trivial⟩ rfl (VOk.g (VOk.mv (d := (.v (.int .i64 x9_76))) rfl rfl)) ?_
                refine TxtE.cons rfl ⟨.same _, .same _, trivial⟩ rfl (VOk.g (VOk.indexL (sz := 6) (e := e_api_Node) (xs := y3_4_87) (i := x9_76) rfl Try.underlying25 sz27 rfl rfl c104)) ?_
                refine TxtE.cons rfl ⟨.same _, trivial⟩ rfl (VOk.g (VOk.to (d' := (.agg (e_api_Node (rd y3_4_87 x9_76)))) (.loadFpAgg rfl Try.underlying27 rfl sz27 rfl rfl) rfl)) ?_
                refine TxtE.cons rfl ⟨.same _, .same _, trivial⟩ rfl (GOk.call rfl rfl cl34 rfl (@ih _ _ _ h106) rfl) ?_
                refine TxtE.cons rfl ⟨.same _, trivial⟩ rfl (VOk.g (VOk.not (b := t105) rfl rfl)) ?_
                exact .done (.rf rfl rfl)
              refine Ok.test (b := (!t105)) rfl (fun hb107 => ?_) (fun hb107 => ?_)
              · replace H := ifT H hb107
                refine Ok.seq ?_
                refine Ok.region (σ' := ⟨[(4, (.v (.bool false)))], []⟩) ?_ ?_
                · refine .cv (VOk.asg (d := (.v (.bool false))) rfl rfl) rfl rfl ?_
                  exact .done (.rf rfl rfl)
                refine Ok.ret ?_
                obtain rfl := Option.some.inj H
                exact ⟨.inl rfl, ⟨_, (.cons (.tmp rfl) .nil), rfl⟩, trivial⟩
              · replace H := ifF H hb107
                refine Ok.skip ?_
                refine Ok.region (σ' := ⟨[(2, (.bref 2 0)), (3, (.bref 3 0)), (9, (.v (.int .i64 (IntKind.i64.wrap (x9_76 + 1)))))], [(2, (.box .ex [(.v (.int .i64 y2_0_77)), (S y2_1_78), (S y2_2_79), (L 3 e_api_Attr y2_3_80), (L 6 e_api_Node y2_4_81), (S y2_5_82)])), (3, (.box .ex [(.v (.int .i64 y3_0_83)), (S y3_1_84), (S y3_2_85), (L 3 e_api_Attr y3_3_86), (L 6 e_api_Node y3_4_87), (S y3_5_88)]))]⟩) ?_ ?_
                · refine .cv (VOk.mv (d := (.v (.int .i64 x9_76))) rfl rfl) rfl rfl ?_
                  refine .cv (VOk.arith (op := .add) (k := .i64) (a := x9_76) (b := 1) rfl rfl rfl rfl) rfl rfl ?_
                  refine .cv (VOk.asg (d := (.v (.int .i64 (IntKind.i64.wrap (x9_76 + 1))))) rfl rfl) rfl rfl ?_
                  exact .done (.rf rfl rfl)
                exact ⟨m102, Nat.lt_succ_self m102, y2_0_77, y2_1_78, y2_2_79, y2_3_80, y2_4_81, y2_5_82, y3_0_83, y3_1_84, y3_2_85, y3_3_86, y3_4_87, y3_5_88, (IntKind.i64.wrap (x9_76 + 1)), rfl, H⟩
            · replace H := ifF H hb108
              refine Ok.exit ?_
              refine Ok.seq ?_
              refine Ok.region (σ' := ⟨[(4, (.v (.bool true)))], []⟩) ?_ ?_
              · refine .cv (VOk.asg (d := (.v (.bool true))) rfl rfl) rfl rfl ?_
                exact .done (.rf rfl rfl)
              refine Ok.ret ?_
              obtain rfl := Option.some.inj H
              exact ⟨.inl rfl, ⟨_, (.cons (.tmp rfl) .nil), rfl⟩, trivial⟩

/-! watchbill/watchbillref02.Same: function 35 -/
def watchbillref02_Same.l0 (k : Nat) (a0 : List T_api_Attr) (a1 : List T_api_Attr) : Nat → Int → Option Bool
  | 0, _ => none
  | m3 + 1, x5_1 => (if (decide (x5_1 < (a0.length : Int))) = true then (if (0 : Int) ≤ x5_1 ∧ x5_1 < (a0.length : Int) then (if (0 : Int) ≤ x5_1 ∧ x5_1 < (a1.length : Int) then (if (!((rd a0 x5_1).Name.Space == (rd a1 x5_1).Name.Space && ((rd a0 x5_1).Name.Local == (rd a1 x5_1).Name.Local && ((rd a0 x5_1).Value == (rd a1 x5_1).Value && true)))) = true then some false else watchbillref02_Same.l0 k a0 a1 m3 (IntKind.i64.wrap (x5_1 + 1))) else none) else none) else some true)
def watchbillref02_Same (k : Nat) (a0 : List T_api_Attr) (a1 : List T_api_Attr) : Option Bool := (if ((a0.length : Int) != (a1.length : Int)) = true then some false else watchbillref02_Same.l0 k a0 a1 k 0)
theorem watchbillref02_Same.ok {k : Nat} {a0 : List T_api_Attr} {a1 : List T_api_Attr} {r : Bool} (H : watchbillref02_Same k a0 a1 = some r) : Vx.Fn Try.prog 35 [(L 3 e_api_Attr a0), (L 3 e_api_Attr a1)] [] (.v (.bool r)) [] := by
  unfold watchbillref02_Same at H
  refine Vx.Fn.of_okR Try.func35 rfl (Nat.le_of_ble_eq_true rfl) ?_
  refine Ok.seq ?_
  refine Ok.region (σ' := ⟨[(0, (L 3 e_api_Attr a0)), (1, (L 3 e_api_Attr a1))], []⟩) ?_ ?_
  · refine .cv (VOk.asg (d := (.v (.bool false))) rfl rfl) rfl rfl ?_
    exact .done (.rf rfl rfl)
  refine Ok.seq ?_
  refine Ok.seq ?_
  refine Ok.region (σ' := ⟨[(0, (L 3 e_api_Attr a0)), (1, (L 3 e_api_Attr a1)), (10, (.v (.bool ((a0.length : Int) != (a1.length : Int)))))], []⟩) ?_ ?_
  · refine .cv (VOk.mv (d := (L 3 e_api_Attr a0)) rfl rfl) rfl rfl ?_
    refine .cv (VOk.lenL (e := e_api_Attr) (xs := a0) rfl Try.underlying24 rfl) rfl rfl ?_
    refine .cv (VOk.mv (d := (L 3 e_api_Attr a1)) rfl rfl) rfl rfl ?_
    refine .cv (VOk.lenL (e := e_api_Attr) (xs := a1) rfl Try.underlying24 rfl) rfl rfl ?_
    refine .cv (VOk.arith (op := .neq) (k := .i64) (a := (a0.length : Int)) (b := (a1.length : Int)) rfl rfl rfl rfl) rfl rfl ?_
    exact .done (.rf rfl rfl)
  refine Ok.test (b := ((a0.length : Int) != (a1.length : Int))) rfl (fun hb8 => ?_) (fun hb8 => ?_)
  · replace H := ifT H hb8
    refine Ok.seq ?_
    refine Ok.region (σ' := ⟨[(4, (.v (.bool false)))], []⟩) ?_ ?_
    · refine .cv (VOk.asg (d := (.v (.bool false))) rfl rfl) rfl rfl ?_
      exact .done (.rf rfl rfl)
    refine Ok.ret ?_
    obtain rfl := Option.some.inj H
    exact ⟨.inl rfl, ⟨_, (.cons (.tmp rfl) .nil), rfl⟩, trivial⟩
  · replace H := ifF H hb8
    refine Ok.skip ?_
    refine Ok.seq ?_
    refine Ok.seq ?_
    refine Ok.region (σ' := ⟨[(0, (L 3 e_api_Attr a0)), (1, (L 3 e_api_Attr a1)), (5, (.v (.int .i64 0)))], []⟩) ?_ ?_
    · refine .cv (VOk.asg (d := (.v (.int .i64 0))) rfl rfl) rfl rfl ?_
      exact .done (.rf rfl rfl)
    refine Ok.block ?_
    refine Ok.le (σ' := ⟨[(0, (L 3 e_api_Attr a0)), (1, (L 3 e_api_Attr a1)), (5, (.v (.int .i64 0)))], []⟩) (.rf rfl rfl) ?_
    refine Ok.loop (fun m3 σ => ∃ (x5_1 : Int), σ = ⟨[(0, (L 3 e_api_Attr a0)), (1, (L 3 e_api_Attr a1)), (5, (.v (.int .i64 x5_1)))], []⟩ ∧ watchbillref02_Same.l0 k a0 a1 m3 x5_1 = some r) k ⟨0, rfl, H⟩ ?_
    rintro m3 σ ⟨x5_1, rfl, H⟩
    cases m3 with
    | zero => exact absurd H (by simp [watchbillref02_Same.l0])
    | succ m3 =>
      unfold watchbillref02_Same.l0 at H
      refine Ok.seq ?_
      refine Ok.seq ?_
      refine Ok.region (σ' := ⟨[(0, (L 3 e_api_Attr a0)), (1, (L 3 e_api_Attr a1)), (5, (.v (.int .i64 x5_1))), (14, (.v (.bool (decide (x5_1 < (a0.length : Int))))))], []⟩) ?_ ?_
      · refine .cv (VOk.mv (d := (.v (.int .i64 x5_1))) rfl rfl) rfl rfl ?_
        refine .cv (VOk.mv (d := (L 3 e_api_Attr a0)) rfl rfl) rfl rfl ?_
        refine .cv (VOk.lenL (e := e_api_Attr) (xs := a0) rfl Try.underlying24 rfl) rfl rfl ?_
        refine .cv (VOk.arith (op := .lss) (k := .i64) (a := x5_1) (b := (a0.length : Int)) rfl rfl rfl rfl) rfl rfl ?_
        exact .done (.rf rfl rfl)
      refine Ok.test (b := (decide (x5_1 < (a0.length : Int)))) rfl (fun hb7 => ?_) (fun hb7 => ?_)
      · replace H := ifT H hb7
        refine Ok.skip ?_
        refine Ok.seq ?_
        refine Ok.block ?_
        refine Ok.seq ?_
        obtain ⟨c4, H⟩ := assertE H
        obtain ⟨c5, H⟩ := assertE H
        refine Ok.drawE (σ' := ⟨[(0, (L 3 e_api_Attr a0)), (1, (L 3 e_api_Attr a1)), (5, (.v (.int .i64 x5_1))), (25, (.v (.bool (!((rd a0 x5_1).Name.Space == (rd a1 x5_1).Name.Space && ((rd a0 x5_1).Name.Local == (rd a1 x5_1).Name.Local && ((rd a0 x5_1).Value == (rd a1 x5_1).Value && true)))))))], []⟩) [⟨true, [(0, (L 3 e_api_Attr a0))], (L 3 e_api_Attr a0)⟩, ⟨true, [(5, (.v (.int .i64 x5_1)))], (.v (.int .i64 x5_1))⟩, ⟨true, [(17, (L 3 e_api_Attr a0)), (18, (.v (.int .i64 x5_1)))], (.fp (e_api_Attr (rd a0 x5_1)) 0)⟩, ⟨true, [(19, (.fp (e_api_Attr (rd a0 x5_1)) 0))], (.agg (e_api_Attr (rd a0 x5_1)))⟩, ⟨true, [(1, (L 3 e_api_Attr a1))], (L 3 e_api_Attr a1)⟩, ⟨true, [(5, (.v (.int .i64 x5_1)))], (.v (.int .i64 x5_1))⟩, ⟨true, [(21, (L 3 e_api_Attr a1)), (22, (.v (.int .i64 x5_1)))], (.fp (e_api_Attr (rd a1 x5_1)) 0)⟩, ⟨true, [(23, (.fp (e_api_Attr (rd a1 x5_1)) 0))], (.agg (e_api_Attr (rd a1 x5_1)))⟩, ⟨true, [(20, (.agg (e_api_Attr (rd a0 x5_1)))), (24, (.agg (e_api_Attr (rd a1 x5_1))))], (.v (.bool (!((rd a0 x5_1).Name.Space == (rd a1 x5_1).Name.Space && ((rd a0 x5_1).Name.Local == (rd a1 x5_1).Name.Local && ((rd a0 x5_1).Value == (rd a1 x5_1).Value && true))))))⟩] [[], [], [0, 1], [2], [], [], [4, 5], [6], [3, 7]] mixed (by kernel_rfl) ?_ ?_
        · refine TxtE.cons rfl ⟨.same _, trivial⟩ rfl (VOk.g (VOk.mv (d := (L 3 e_api_Attr a0)) rfl rfl)) ?_
          refine TxtE.cons rfl ⟨.same _, trivial⟩ rfl (VOk.g (VOk.mv (d := (.v (.int .i64 x5_1))) rfl rfl)) ?_
          refine TxtE.cons rfl ⟨.same _, .same _, trivial⟩ rfl (VOk.g (VOk.indexL (sz := 3) (e := e_api_Attr) (xs := a0) (i := x5_1) rfl Try.underlying24 sz47 rfl rfl c4)) ?_
          refine TxtE.cons rfl ⟨.same _, trivial⟩ rfl (VOk.g (VOk.to (d' := (.agg (e_api_Attr (rd a0 x5_1)))) (.loadFpAgg rfl Try.underlying47 rfl sz47 rfl rfl) rfl)) ?_
          refine TxtE.cons rfl ⟨.same _, trivial⟩ rfl (VOk.g (VOk.mv (d := (L 3 e_api_Attr a1)) rfl rfl)) ?_
          refine TxtE.cons rfl ⟨.same _, trivial⟩ rfl (VOk.g (VOk.mv (d := (.v (.int .i64 x5_1))) rfl rfl)) ?_
          refine TxtE.cons rfl ⟨.same _, .same _, trivial⟩ rfl (VOk.g (VOk.indexL (sz := 3) (e := e_api_Attr) (xs := a1) (i := x5_1) rfl Try.underlying24 sz47 rfl rfl c5)) ?_
          refine TxtE.cons rfl ⟨.same _, trivial⟩ rfl (VOk.g (VOk.to (d' := (.agg (e_api_Attr (rd a1 x5_1)))) (.loadFpAgg rfl Try.underlying47 rfl sz47 rfl rfl) rfl)) ?_
          refine TxtE.cons rfl ⟨.same _, .same _, trivial⟩ rfl (VOk.g (VOk.eqS' (op := .neq) (d := (.v (.bool (!((rd a0 x5_1).Name.Space == (rd a1 x5_1).Name.Space && ((rd a0 x5_1).Name.Local == (rd a1 x5_1).Name.Local && ((rd a0 x5_1).Value == (rd a1 x5_1).Value && true))))))) rfl (.inr rfl) (eqt47 9997) ag47 eg47 rfl rfl rfl rfl)) ?_
          exact .done (.rf rfl rfl)
        refine Ok.test (b := (!((rd a0 x5_1).Name.Space == (rd a1 x5_1).Name.Space && ((rd a0 x5_1).Name.Local == (rd a1 x5_1).Name.Local && ((rd a0 x5_1).Value == (rd a1 x5_1).Value && true))))) rfl (fun hb6 => ?_) (fun hb6 => ?_)
        · replace H := ifT H hb6
          refine Ok.seq ?_
          refine Ok.region (σ' := ⟨[(4, (.v (.bool false)))], []⟩) ?_ ?_
          · refine .cv (VOk.asg (d := (.v (.bool false))) rfl rfl) rfl rfl ?_
            exact .done (.rf rfl rfl)
          refine Ok.ret ?_
          obtain rfl := Option.some.inj H
          exact ⟨.inl rfl, ⟨_, (.cons (.tmp rfl) .nil), rfl⟩, trivial⟩
        · replace H := ifF H hb6
          refine Ok.skip ?_
          refine Ok.region (σ' := ⟨[(0, (L 3 e_api_Attr a0)), (1, (L 3 e_api_Attr a1)), (5, (.v (.int .i64 (IntKind.i64.wrap (x5_1 + 1)))))], []⟩) ?_ ?_
          · refine .cv (VOk.mv (d := (.v (.int .i64 x5_1))) rfl rfl) rfl rfl ?_
            refine .cv (VOk.arith (op := .add) (k := .i64) (a := x5_1) (b := 1) rfl rfl rfl rfl) rfl rfl ?_
            refine .cv (VOk.asg (d := (.v (.int .i64 (IntKind.i64.wrap (x5_1 + 1))))) rfl rfl) rfl rfl ?_
            exact .done (.rf rfl rfl)
          exact ⟨m3, Nat.lt_succ_self m3, (IntKind.i64.wrap (x5_1 + 1)), rfl, H⟩
      · replace H := ifF H hb7
        refine Ok.exit ?_
        refine Ok.seq ?_
        refine Ok.region (σ' := ⟨[(4, (.v (.bool true)))], []⟩) ?_ ?_
        · refine .cv (VOk.asg (d := (.v (.bool true))) rfl rfl) rfl rfl ?_
          exact .done (.rf rfl rfl)
        refine Ok.ret ?_
        obtain rfl := Option.some.inj H
        exact ⟨.inl rfl, ⟨_, (.cons (.tmp rfl) .nil), rfl⟩, trivial⟩

/-! watchbill/watchbillref04.Equal: function 19 -/
def watchbillref04_Equal.l0 (k : Nat) (self : T_api_Node → T_api_Node → Option Bool) : Nat → Int → Str → Str → List T_api_Attr → List T_api_Node → Str → Int → Str → Str → List T_api_Attr → List T_api_Node → Str → Int → Option Bool
  | 0, _, _, _, _, _, _, _, _, _, _, _, _, _ => none
  | m33 + 1, y2_0_8, y2_1_9, y2_2_10, y2_3_11, y2_4_12, y2_5_13, y3_0_14, y3_1_15, y3_2_16, y3_3_17, y3_4_18, y3_5_19, x5_7 => (if (decide (x5_7 < (y2_4_12.length : Int))) = true then (if (0 : Int) ≤ x5_7 ∧ x5_7 < (y2_4_12.length : Int) then (if (0 : Int) ≤ x5_7 ∧ x5_7 < (y3_4_18.length : Int) then ((self (rd y2_4_12 x5_7) (rd y3_4_18 x5_7)).bind fun (t36 : Bool) => (if (!t36) = true then some false else watchbillref04_Equal.l0 k self m33 y2_0_8 y2_1_9 y2_2_10 y2_3_11 y2_4_12 y2_5_13 y3_0_14 y3_1_15 y3_2_16 y3_3_17 y3_4_18 y3_5_19 (IntKind.i64.wrap (x5_7 + 1)))) else none) else none) else some true)
def watchbillref04_Equal : Nat → T_api_Node → T_api_Node → Option Bool
  | 0, _, _ => none
  | k + 1, a0, a1 => ((watchbillref04_Same k a0 a1).bind fun (t1 : Bool) => (((if ((!t1) == false) = true then watchbillref02_Same k a0.Attrs a1.Attrs else some default)).bind fun (t4 : Bool) => (if ((!t1) || (!t4)) = true then some false else watchbillref04_Equal.l0 k (watchbillref04_Equal k) k a0.Kind a0.Name.Space a0.Name.Local a0.Attrs a0.Kids a0.Text a1.Kind a1.Name.Space a1.Name.Local a1.Attrs a1.Kids a1.Text 0)))
theorem watchbillref04_Equal.ok {k : Nat} {a0 : T_api_Node} {a1 : T_api_Node} {r : Bool} (H : watchbillref04_Equal k a0 a1 = some r) : Vx.Fn Try.prog 19 [(.agg (e_api_Node a0)), (.agg (e_api_Node a1))] [] (.v (.bool r)) [] := by
  induction k generalizing a0 a1 r with
  | zero => exact absurd H (by simp [watchbillref04_Equal])
  | succ k ih =>
    unfold watchbillref04_Equal at H
    refine Vx.Fn.of_okR Try.func19 rfl (Nat.le_of_ble_eq_true rfl) ?_
    refine Ok.seq ?_
    refine Ok.region (σ' := ⟨[(2, (.bref 2 0)), (3, (.bref 3 0))], [(2, (.box .ex (c_api_Node a0))), (3, (.box .ex (c_api_Node a1)))]⟩) ?_ ?_
    · refine OpsOk.cut1 0 (.agg [(.v (.int .i64 a0.Kind)), (S a0.Name.Space), (S a0.Name.Local), (L 3 e_api_Attr a0.Attrs), (L 6 e_api_Node a0.Kids), (S a0.Text)]) (DLe.of_eq (congrArg D.agg (e_api_Node_c _).symm)) ?_
      refine OpsOk.cons rfl (OpOk.box 2 (cells := [(.v (.int .i64 a0.Kind)), (S a0.Name.Space), (S a0.Name.Local), (L 3 e_api_Attr a0.Attrs), (L 6 e_api_Node a0.Kids), (S a0.Text)]) rfl rfl rfl rfl) ?_
      refine OpsOk.cut1 1 (.agg [(.v (.int .i64 a1.Kind)), (S a1.Name.Space), (S a1.Name.Local), (L 3 e_api_Attr a1.Attrs), (L 6 e_api_Node a1.Kids), (S a1.Text)]) (DLe.of_eq (congrArg D.agg (e_api_Node_c _).symm)) ?_
      refine OpsOk.cons rfl (OpOk.box 3 (cells := [(.v (.int .i64 a1.Kind)), (S a1.Name.Space), (S a1.Name.Local), (L 3 e_api_Attr a1.Attrs), (L 6 e_api_Node a1.Kids), (S a1.Text)]) rfl rfl rfl rfl) ?_
      refine .cv (VOk.asg (d := (.v (.bool false))) rfl rfl) rfl rfl ?_
      exact .done (.rf rfl rfl)
    refine Ok.seq ?_
    refine Ok.seq ?_
    obtain ⟨t1, h2, H⟩ := bindE H
    obtain ⟨t4, h5, H⟩ := bindE H
    refine Ok.region (σ' := ⟨[(2, (.bref 2 0)), (3, (.bref 3 0)), (17, (.v (.bool ((!t1) || (!t4)))))], [(2, (.box .ex (c_api_Node a0))), (3, (.box .ex (c_api_Node a1)))]⟩) ?_ ?_
    · refine .cv (VOk.to (d' := (.agg (e_api_Node a0))) (.loadBAgg rfl Try.underlying27 rfl sz27 rfl rfl rfl) (congrArg D.agg (e_api_Node_c a0).symm)) rfl rfl ?_
      refine .cv (VOk.to (d' := (.agg (e_api_Node a1))) (.loadBAgg rfl Try.underlying27 rfl sz27 rfl rfl rfl) (congrArg D.agg (e_api_Node_c a1).symm)) rfl rfl ?_
      refine .cg (GOk.call rfl rfl cl34 rfl (watchbillref04_Same.ok h2) rfl) rfl rfl ?_
      refine .cv (VOk.not (b := t1) rfl rfl) rfl rfl ?_
      refine .cv (VOk.mv (d := (.v (.bool (!t1)))) rfl rfl) rfl rfl ?_
      refine OpsOk.consI rfl rfl rfl (.one rfl) rfl (fun hw3 => (VOk.g (VOk.to (VOk.fieldB rfl Try.underlying27 rfl sz24 rfl rfl) rfl))) ?_
      refine OpsOk.consI rfl rfl rfl (.one rfl) rfl (fun hw3 => (GOk.fr (fr' := [(11, (.bref 2 3))]) ⟨DLe.of_eq (cT hw3).symm, trivial⟩ (VOk.g (VOk.loadB (d := (L 3 e_api_Attr a0.Attrs)) rfl Try.underlying24 rfl rfl rfl rfl)))) ?_
      refine OpsOk.consI rfl rfl rfl (.one rfl) rfl (fun hw3 => (VOk.g (VOk.to (VOk.fieldB rfl Try.underlying27 rfl sz24 rfl rfl) rfl))) ?_
      refine OpsOk.consI rfl rfl rfl (.one rfl) rfl (fun hw3 => (GOk.fr (fr' := [(13, (.bref 3 3))]) ⟨DLe.of_eq (cT hw3).symm, trivial⟩ (VOk.g (VOk.loadB (d := (L 3 e_api_Attr a1.Attrs)) rfl Try.underlying24 rfl rfl rfl rfl)))) ?_
      refine OpsOk.consI rfl rfl rfl (.one rfl) rfl (fun hw3 => (GOk.fr (fr' := [(12, (L 3 e_api_Attr a0.Attrs)), (14, (L 3 e_api_Attr a1.Attrs))]) ⟨DLe.of_eq (cT hw3).symm, DLe.of_eq (cT hw3).symm, trivial⟩ (GOk.call rfl rfl cl35 rfl (watchbillref02_Same.ok (ifT h5 hw3)) rfl))) ?_
      refine OpsOk.consI rfl rfl rfl (.one rfl) rfl (fun hw3 => (GOk.fr (fr' := [(15, (.v (.bool t4)))]) ⟨DLe.of_eq (cT hw3).symm, trivial⟩ (VOk.g (VOk.not (b := t4) rfl rfl)))) ?_
      refine .cv (VOk.to (VOk.pickI (b := (!t1)) (p := true) (q := (!t4)) rfl rfl (fun hp6 => rfl) (fun hp6 => (cT (f_beq hp6)))) (pickOr (!t1) (!t4))) rfl rfl ?_
      exact .done (.rf rfl rfl)
    refine Ok.test (b := ((!t1) || (!t4))) rfl (fun hb40 => ?_) (fun hb40 => ?_)
    · replace H := ifT H hb40
      refine Ok.seq ?_
      refine Ok.region (σ' := ⟨[(4, (.v (.bool false)))], []⟩) ?_ ?_
      · refine .cv (VOk.asg (d := (.v (.bool false))) rfl rfl) rfl rfl ?_
        exact .done (.rf rfl rfl)
      refine Ok.ret ?_
      obtain rfl := Option.some.inj H
      exact ⟨.inl rfl, ⟨_, (.cons (.tmp rfl) .nil), rfl⟩, trivial⟩
    · replace H := ifF H hb40
      refine Ok.skip ?_
      refine Ok.seq ?_
      refine Ok.seq ?_
      refine Ok.region (σ' := ⟨[(2, (.bref 2 0)), (3, (.bref 3 0)), (5, (.v (.int .i64 0)))], [(2, (.box .ex (c_api_Node a0))), (3, (.box .ex (c_api_Node a1)))]⟩) ?_ ?_
      · refine .cv (VOk.asg (d := (.v (.int .i64 0))) rfl rfl) rfl rfl ?_
        exact .done (.rf rfl rfl)
      refine Ok.block ?_
      refine Ok.le (σ' := ⟨[(2, (.bref 2 0)), (3, (.bref 3 0)), (5, (.v (.int .i64 0)))], [(2, (.box .ex (c_api_Node a0))), (3, (.box .ex (c_api_Node a1)))]⟩) (.rf rfl rfl) ?_
      refine Ok.loop (fun m33 σ => ∃ (y2_0_8 : Int) (y2_1_9 : Str) (y2_2_10 : Str) (y2_3_11 : List T_api_Attr) (y2_4_12 : List T_api_Node) (y2_5_13 : Str) (y3_0_14 : Int) (y3_1_15 : Str) (y3_2_16 : Str) (y3_3_17 : List T_api_Attr) (y3_4_18 : List T_api_Node) (y3_5_19 : Str) (x5_7 : Int), σ = ⟨[(2, (.bref 2 0)), (3, (.bref 3 0)), (5, (.v (.int .i64 x5_7)))], [(2, (.box .ex [(.v (.int .i64 y2_0_8)), (S y2_1_9), (S y2_2_10), (L 3 e_api_Attr y2_3_11), (L 6 e_api_Node y2_4_12), (S y2_5_13)])), (3, (.box .ex [(.v (.int .i64 y3_0_14)), (S y3_1_15), (S y3_2_16), (L 3 e_api_Attr y3_3_17), (L 6 e_api_Node y3_4_18), (S y3_5_19)]))]⟩ ∧ watchbillref04_Equal.l0 k (watchbillref04_Equal k) m33 y2_0_8 y2_1_9 y2_2_10 y2_3_11 y2_4_12 y2_5_13 y3_0_14 y3_1_15 y3_2_16 y3_3_17 y3_4_18 y3_5_19 x5_7 = some r) k ⟨a0.Kind, a0.Name.Space, a0.Name.Local, a0.Attrs, a0.Kids, a0.Text, a1.Kind, a1.Name.Space, a1.Name.Local, a1.Attrs, a1.Kids, a1.Text, 0, rfl, H⟩ ?_
      rintro m33 σ ⟨y2_0_8, y2_1_9, y2_2_10, y2_3_11, y2_4_12, y2_5_13, y3_0_14, y3_1_15, y3_2_16, y3_3_17, y3_4_18, y3_5_19, x5_7, rfl, H⟩
      cases m33 with
      | zero => exact absurd H (by simp [watchbillref04_Equal.l0])
      | succ m33 =>
        unfold watchbillref04_Equal.l0 at H
        refine Ok.seq ?_
        refine Ok.seq ?_
        refine Ok.region (σ' := ⟨[(2, (.bref 2 0)), (3, (.bref 3 0)), (5, (.v (.int .i64 x5_7))), (22, (.v (.bool (decide (x5_7 < (y2_4_12.length : Int))))))], [(2, (.box .ex [(.v (.int .i64 y2_0_8)), (S y2_1_9), (S y2_2_10), (L 3 e_api_Attr y2_3_11), (L 6 e_api_Node y2_4_12), (S y2_5_13)])), (3, (.box .ex [(.v (.int .i64 y3_0_14)), (S y3_1_15), (S y3_2_16), (L 3 e_api_Attr y3_3_17), (L 6 e_api_Node y3_4_18), (S y3_5_19)]))]⟩) ?_ ?_
        · refine .cv (VOk.mv (d := (.v (.int .i64 x5_7))) rfl rfl) rfl rfl ?_
          refine .cv (VOk.to (VOk.fieldB rfl Try.underlying27 rfl sz25 rfl rfl) rfl) rfl rfl ?_
          refine .cv (VOk.loadB (d := (L 6 e_api_Node y2_4_12)) rfl Try.underlying25 rfl rfl rfl rfl) rfl rfl ?_
          refine .cv (VOk.lenL (e := e_api_Node) (xs := y2_4_12) rfl Try.underlying25 rfl) rfl rfl ?_
          refine .cv (VOk.arith (op := .lss) (k := .i64) (a := x5_7) (b := (y2_4_12.length : Int)) rfl rfl rfl rfl) rfl rfl ?_
          exact .done (.rf rfl rfl)
        refine Ok.test (b := (decide (x5_7 < (y2_4_12.length : Int)))) rfl (fun hb39 => ?_) (fun hb39 => ?_)
        · replace H := ifT H hb39
          refine Ok.skip ?_
          refine Ok.seq ?_
          refine Ok.block ?_
          refine Ok.seq ?_
          obtain ⟨c34, H⟩ := assertE H
          obtain ⟨c35, H⟩ := assertE H
          obtain ⟨t36, h37, H⟩ := bindE H
          refine Ok.drawE (σ' := ⟨[(2, (.bref 2 0)), (3, (.bref 3 0)), (5, (.v (.int .i64 x5_7))), (36, (.v (.bool (!t36))))], [(2, (.box .ex [(.v (.int .i64 y2_0_8)), (S y2_1_9), (S y2_2_10), (L 3 e_api_Attr y2_3_11), (L 6 e_api_Node y2_4_12), (S y2_5_13)])), (3, (.box .ex [(.v (.int .i64 y3_0_14)), (S y3_1_15), (S y3_2_16), (L 3 e_api_Attr y3_3_17), (L 6 e_api_Node y3_4_18), (S y3_5_19)]))]⟩) [⟨true, [(2, (.bref 2 0))], (.bref 2 4)⟩, ⟨true, [(25, (.bref 2 4))], (L 6 e_api_Node y2_4_12)⟩, ⟨true, [(5, (.v (.int .i64 x5_7)))], (.v (.int .i64 x5_7))⟩, ⟨true, [(26, (L 6 e_api_Node y2_4_12)), (27, (.v (.int .i64 x5_7)))], (.fp (e_api_Node (rd y2_4_12 x5_7)) 0)⟩, ⟨true, [(28, (.fp (e_api_Node (rd y2_4_12 x5_7)) 0))], (.agg (e_api_Node (rd y2_4_12 x5_7)))⟩, ⟨true, [(3, (.bref 3 0))], (.bref 3 4)⟩, ⟨true, [(30, (.bref 3 4))], (L 6 e_api_Node y3_4_18)⟩, ⟨true, [(5, (.v (.int .i64 x5_7)))], (.v (.int .i64 x5_7))⟩, ⟨true, [(31, (L 6 e_api_Node y3_4_18)), (32, (.v (.int .i64 x5_7)))], (.fp (e_api_Node (rd y3_4_18 x5_7)) 0)⟩, ⟨true, [(33, (.fp (e_api_Node (rd y3_4_18 x5_7)) 0))], (.agg (e_api_Node (rd y3_4_18 x5_7)))⟩, ⟨true, [(29, (.agg (e_api_Node (rd y2_4_12 x5_7)))), (34, (.agg (e_api_Node (rd y3_4_18 x5_7))))], (.v (.bool t36))⟩, ⟨true, [(35, (.v (.bool t36)))], (.v (.bool (!t36)))⟩] [[], [0], [], [1, 2], [3], [], [5], [], [6, 7], [8], [4, 9], [10]] mixed (by kernel_rfl) ?_ ?_
          · refine TxtE.cons rfl ⟨.same _, trivial⟩ rfl (VOk.g (VOk.to (VOk.fieldB rfl Try.underlying27 rfl sz25 rfl rfl) rfl)) ?_
            refine TxtE.cons rfl ⟨.same _, trivial⟩ rfl (VOk.g (VOk.loadB (d := (L 6 e_api_Node y2_4_12)) rfl Try.underlying25 rfl rfl rfl rfl)) ?_
            refine TxtE.cons rfl ⟨.same _, trivial⟩ rfl (VOk.g (VOk.mv (d := (.v (.int .i64 x5_7))) rfl rfl)) ?_
            refine TxtE.cons rfl ⟨.same _, .same _, trivial⟩ rfl (VOk.g (VOk.indexL (sz := 6) (e := e_api_Node) (xs := y2_4_12) (i := x5_7) rfl Try.underlying25 sz27 rfl rfl c34)) ?_
            refine TxtE.cons rfl ⟨.same _, trivial⟩ rfl (VOk.g (VOk.to (d' := (.agg (e_api_Node (rd y2_4_12 x5_7)))) (.loadFpAgg rfl Try.underlying27 rfl sz27 rfl rfl) rfl)) ?_
            refine TxtE.cons rfl ⟨.same _, trivial⟩ rfl (VOk.g (VOk.to (VOk.fieldB rfl Try.underlying27 rfl sz25 rfl rfl) rfl)) ?_
            refine TxtE.cons rfl ⟨.same _, trivial⟩ rfl (VOk.g (VOk.loadB (d := (L 6 e_api_Node y3_4_18)) rfl Try.underlying25 rfl rfl rfl rfl)) ?_
            refine TxtE.cons rfl ⟨.same _, trivial⟩ rfl (VOk.g (VOk.mv (d := (.v (.int .i64 x5_7))) rfl rfl)) ?_
            refine TxtE.cons rfl ⟨.same _, .same _, trivial⟩ rfl (VOk.g (VOk.indexL (sz := 6) (e := e_api_Node) (xs := y3_4_18) (i := x5_7) rfl Try.underlying25 sz27 rfl rfl c35)) ?_
            refine TxtE.cons rfl ⟨.same _, trivial⟩ rfl (VOk.g (VOk.to (d' := (.agg (e_api_Node (rd y3_4_18 x5_7)))) (.loadFpAgg rfl Try.underlying27 rfl sz27 rfl rfl) rfl)) ?_
            refine TxtE.cons rfl ⟨.same _, .same _, trivial⟩ rfl (GOk.call rfl rfl cl19 rfl (@ih _ _ _ h37) rfl) ?_
            refine TxtE.cons rfl ⟨.same _, trivial⟩ rfl (VOk.g (VOk.not (b := t36) rfl rfl)) ?_
            exact .done (.rf rfl rfl)
          refine Ok.test (b := (!t36)) rfl (fun hb38 => ?_) (fun hb38 => ?_)
          · replace H := ifT H hb38
            refine Ok.seq ?_
            refine Ok.region (σ' := ⟨[(4, (.v (.bool false)))], []⟩) ?_ ?_
            · refine .cv (VOk.asg (d := (.v (.bool false))) rfl rfl) rfl rfl ?_
              exact .done (.rf rfl rfl)
            refine Ok.ret ?_
            obtain rfl := Option.some.inj H
            exact ⟨.inl rfl, ⟨_, (.cons (.tmp rfl) .nil), rfl⟩, trivial⟩
          · replace H := ifF H hb38
            refine Ok.skip ?_
            refine Ok.region (σ' := ⟨[(2, (.bref 2 0)), (3, (.bref 3 0)), (5, (.v (.int .i64 (IntKind.i64.wrap (x5_7 + 1)))))], [(2, (.box .ex [(.v (.int .i64 y2_0_8)), (S y2_1_9), (S y2_2_10), (L 3 e_api_Attr y2_3_11), (L 6 e_api_Node y2_4_12), (S y2_5_13)])), (3, (.box .ex [(.v (.int .i64 y3_0_14)), (S y3_1_15), (S y3_2_16), (L 3 e_api_Attr y3_3_17), (L 6 e_api_Node y3_4_18), (S y3_5_19)]))]⟩) ?_ ?_
            · refine .cv (VOk.mv (d := (.v (.int .i64 x5_7))) rfl rfl) rfl rfl ?_
              refine .cv (VOk.arith (op := .add) (k := .i64) (a := x5_7) (b := 1) rfl rfl rfl rfl) rfl rfl ?_
              refine .cv (VOk.asg (d := (.v (.int .i64 (IntKind.i64.wrap (x5_7 + 1))))) rfl rfl) rfl rfl ?_
              exact .done (.rf rfl rfl)
            exact ⟨m33, Nat.lt_succ_self m33, y2_0_8, y2_1_9, y2_2_10, y2_3_11, y2_4_12, y2_5_13, y3_0_14, y3_1_15, y3_2_16, y3_3_17, y3_4_18, y3_5_19, (IntKind.i64.wrap (x5_7 + 1)), rfl, H⟩
        · replace H := ifF H hb39
          refine Ok.exit ?_
          refine Ok.seq ?_
          refine Ok.region (σ' := ⟨[(4, (.v (.bool true)))], []⟩) ?_ ?_
          · refine .cv (VOk.asg (d := (.v (.bool true))) rfl rfl) rfl rfl ?_
            exact .done (.rf rfl rfl)
          refine Ok.ret ?_
          obtain rfl := Option.some.inj H
          exact ⟨.inl rfl, ⟨_, (.cons (.tmp rfl) .nil), rfl⟩, trivial⟩

/-! watchbill/watchbilllaw06.same: function 12 -/
def watchbilllaw06_same (k : Nat) (a0 : T_api_Node) (a1 : T_api_Node) (a2 : Bool) (a3 : Bool) : Option Bool := (((if ((a2 == a3) == true) = true then watchbillref04_Equal k a0 a1 else some default)).bind fun (t2 : Bool) => some ((a2 == a3) && t2))
theorem watchbilllaw06_same.ok {k : Nat} {a0 : T_api_Node} {a1 : T_api_Node} {a2 : Bool} {a3 : Bool} {r : Bool} (H : watchbilllaw06_same k a0 a1 a2 a3 = some r) : Vx.Fn Try.prog 12 [(.agg (e_api_Node a0)), (.agg (e_api_Node a1)), (.v (.bool a2)), (.v (.bool a3))] [] (.v (.bool r)) [] := by
  unfold watchbilllaw06_same at H
  refine Vx.Fn.of_okR Try.func12 rfl (Nat.le_of_ble_eq_true rfl) ?_
  refine Ok.seq ?_
  refine Ok.region (σ' := ⟨[(2, (.v (.bool a2))), (3, (.v (.bool a3))), (4, (.bref 4 0)), (5, (.bref 5 0))], [(4, (.box .ex (c_api_Node a0))), (5, (.box .ex (c_api_Node a1)))]⟩) ?_ ?_
  · refine OpsOk.cut1 0 (.agg [(.v (.int .i64 a0.Kind)), (S a0.Name.Space), (S a0.Name.Local), (L 3 e_api_Attr a0.Attrs), (L 6 e_api_Node a0.Kids), (S a0.Text)]) (DLe.of_eq (congrArg D.agg (e_api_Node_c _).symm)) ?_
    refine OpsOk.cons rfl (OpOk.box 4 (cells := [(.v (.int .i64 a0.Kind)), (S a0.Name.Space), (S a0.Name.Local), (L 3 e_api_Attr a0.Attrs), (L 6 e_api_Node a0.Kids), (S a0.Text)]) rfl rfl rfl rfl) ?_
    refine OpsOk.cut1 1 (.agg [(.v (.int .i64 a1.Kind)), (S a1.Name.Space), (S a1.Name.Local), (L 3 e_api_Attr a1.Attrs), (L 6 e_api_Node a1.Kids), (S a1.Text)]) (DLe.of_eq (congrArg D.agg (e_api_Node_c _).symm)) ?_
    refine OpsOk.cons rfl (OpOk.box 5 (cells := [(.v (.int .i64 a1.Kind)), (S a1.Name.Space), (S a1.Name.Local), (L 3 e_api_Attr a1.Attrs), (L 6 e_api_Node a1.Kids), (S a1.Text)]) rfl rfl rfl rfl) ?_
    refine .cv (VOk.asg (d := (.v (.bool false))) rfl rfl) rfl rfl ?_
    exact .done (.rf rfl rfl)
  refine Ok.seq ?_
  obtain ⟨t2, h3, H⟩ := bindE H
  refine Ok.region (σ' := ⟨[(8, (.v (.bool ((a2 == a3) && t2))))], []⟩) ?_ ?_
  · refine .cv (VOk.mv (d := (.v (.bool a2))) rfl rfl) rfl rfl ?_
    refine .cv (VOk.mv (d := (.v (.bool a3))) rfl rfl) rfl rfl ?_
    refine .cv (VOk.eqB (op := .eql) (p := a2) (q := a3) rfl (.inl rfl) Try.underlying4 rfl rfl) rfl rfl ?_
    refine .cv (VOk.mv (d := (.v (.bool (a2 == a3)))) rfl rfl) rfl rfl ?_
    refine OpsOk.consI rfl rfl rfl (.one rfl) rfl (fun hw1 => (VOk.g (VOk.to (d' := (.agg (e_api_Node a0))) (.loadBAgg rfl Try.underlying27 rfl sz27 rfl rfl rfl) (congrArg D.agg (e_api_Node_c a0).symm)))) ?_
    refine OpsOk.consI rfl rfl rfl (.one rfl) rfl (fun hw1 => (VOk.g (VOk.to (d' := (.agg (e_api_Node a1))) (.loadBAgg rfl Try.underlying27 rfl sz27 rfl rfl rfl) (congrArg D.agg (e_api_Node_c a1).symm)))) ?_
    refine OpsOk.consI rfl rfl rfl (.one rfl) rfl (fun hw1 => (GOk.fr (fr' := [(13, (.agg (e_api_Node a0))), (14, (.agg (e_api_Node a1)))]) ⟨DLe.of_eq (cT hw1).symm, DLe.of_eq (cT hw1).symm, trivial⟩ (GOk.call rfl rfl cl19 rfl (watchbillref04_Equal.ok (ifT h3 hw1)) rfl))) ?_
    refine .cv (VOk.to (VOk.pickI (b := (a2 == a3)) (p := t2) (q := false) rfl rfl (fun hp4 => (cT (t_beq hp4))) (fun hp4 => rfl)) (pickAnd (a2 == a3) t2)) rfl rfl ?_
    refine .cv (VOk.asg (d := (.v (.bool ((a2 == a3) && t2)))) rfl rfl) rfl rfl ?_
    exact .done (.rf rfl rfl)
  refine Ok.ret ?_
  obtain rfl := Option.some.inj H
  exact ⟨.inl rfl, ⟨_, (.cons (.tmp rfl) .nil), rfl⟩, trivial⟩

/-! watchbill/watchbillref06.Same: function 13 -/
def watchbillref06_Same.l0 (k : Nat) (a0 : List Int) (a1 : List Int) : Nat → Int → Option Bool
  | 0, _ => none
  | m3 + 1, x5_1 => (if (decide (x5_1 < (a0.length : Int))) = true then (if (0 : Int) ≤ x5_1 ∧ x5_1 < (a0.length : Int) then (if (0 : Int) ≤ x5_1 ∧ x5_1 < (a1.length : Int) then (if ((rd a0 x5_1) != (rd a1 x5_1)) = true then some false else watchbillref06_Same.l0 k a0 a1 m3 (IntKind.i64.wrap (x5_1 + 1))) else none) else none) else some true)
def watchbillref06_Same (k : Nat) (a0 : List Int) (a1 : List Int) : Option Bool := (if ((a0.length : Int) != (a1.length : Int)) = true then some false else watchbillref06_Same.l0 k a0 a1 k 0)
theorem watchbillref06_Same.ok {k : Nat} {a0 : List Int} {a1 : List Int} {r : Bool} (H : watchbillref06_Same k a0 a1 = some r) : Vx.Fn Try.prog 13 [(L 1 (eI .i64) a0), (L 1 (eI .i64) a1)] [] (.v (.bool r)) [] := by
  unfold watchbillref06_Same at H
  refine Vx.Fn.of_okR Try.func13 rfl (Nat.le_of_ble_eq_true rfl) ?_
  refine Ok.seq ?_
  refine Ok.region (σ' := ⟨[(0, (L 1 (eI .i64) a0)), (1, (L 1 (eI .i64) a1))], []⟩) ?_ ?_
  · refine .cv (VOk.asg (d := (.v (.bool false))) rfl rfl) rfl rfl ?_
    exact .done (.rf rfl rfl)
  refine Ok.seq ?_
  refine Ok.seq ?_
  refine Ok.region (σ' := ⟨[(0, (L 1 (eI .i64) a0)), (1, (L 1 (eI .i64) a1)), (10, (.v (.bool ((a0.length : Int) != (a1.length : Int)))))], []⟩) ?_ ?_
  · refine .cv (VOk.mv (d := (L 1 (eI .i64) a0)) rfl rfl) rfl rfl ?_
    refine .cv (VOk.lenL (e := (eI .i64)) (xs := a0) rfl Try.underlying28 rfl) rfl rfl ?_
    refine .cv (VOk.mv (d := (L 1 (eI .i64) a1)) rfl rfl) rfl rfl ?_
    refine .cv (VOk.lenL (e := (eI .i64)) (xs := a1) rfl Try.underlying28 rfl) rfl rfl ?_
    refine .cv (VOk.arith (op := .neq) (k := .i64) (a := (a0.length : Int)) (b := (a1.length : Int)) rfl rfl rfl rfl) rfl rfl ?_
    exact .done (.rf rfl rfl)
  refine Ok.test (b := ((a0.length : Int) != (a1.length : Int))) rfl (fun hb8 => ?_) (fun hb8 => ?_)
  · replace H := ifT H hb8
    refine Ok.seq ?_
    refine Ok.region (σ' := ⟨[(4, (.v (.bool false)))], []⟩) ?_ ?_
    · refine .cv (VOk.asg (d := (.v (.bool false))) rfl rfl) rfl rfl ?_
      exact .done (.rf rfl rfl)
    refine Ok.ret ?_
    obtain rfl := Option.some.inj H
    exact ⟨.inl rfl, ⟨_, (.cons (.tmp rfl) .nil), rfl⟩, trivial⟩
  · replace H := ifF H hb8
    refine Ok.skip ?_
    refine Ok.seq ?_
    refine Ok.seq ?_
    refine Ok.region (σ' := ⟨[(0, (L 1 (eI .i64) a0)), (1, (L 1 (eI .i64) a1)), (5, (.v (.int .i64 0)))], []⟩) ?_ ?_
    · refine .cv (VOk.asg (d := (.v (.int .i64 0))) rfl rfl) rfl rfl ?_
      exact .done (.rf rfl rfl)
    refine Ok.block ?_
    refine Ok.le (σ' := ⟨[(0, (L 1 (eI .i64) a0)), (1, (L 1 (eI .i64) a1)), (5, (.v (.int .i64 0)))], []⟩) (.rf rfl rfl) ?_
    refine Ok.loop (fun m3 σ => ∃ (x5_1 : Int), σ = ⟨[(0, (L 1 (eI .i64) a0)), (1, (L 1 (eI .i64) a1)), (5, (.v (.int .i64 x5_1)))], []⟩ ∧ watchbillref06_Same.l0 k a0 a1 m3 x5_1 = some r) k ⟨0, rfl, H⟩ ?_
    rintro m3 σ ⟨x5_1, rfl, H⟩
    cases m3 with
    | zero => exact absurd H (by simp [watchbillref06_Same.l0])
    | succ m3 =>
      unfold watchbillref06_Same.l0 at H
      refine Ok.seq ?_
      refine Ok.seq ?_
      refine Ok.region (σ' := ⟨[(0, (L 1 (eI .i64) a0)), (1, (L 1 (eI .i64) a1)), (5, (.v (.int .i64 x5_1))), (14, (.v (.bool (decide (x5_1 < (a0.length : Int))))))], []⟩) ?_ ?_
      · refine .cv (VOk.mv (d := (.v (.int .i64 x5_1))) rfl rfl) rfl rfl ?_
        refine .cv (VOk.mv (d := (L 1 (eI .i64) a0)) rfl rfl) rfl rfl ?_
        refine .cv (VOk.lenL (e := (eI .i64)) (xs := a0) rfl Try.underlying28 rfl) rfl rfl ?_
        refine .cv (VOk.arith (op := .lss) (k := .i64) (a := x5_1) (b := (a0.length : Int)) rfl rfl rfl rfl) rfl rfl ?_
        exact .done (.rf rfl rfl)
      refine Ok.test (b := (decide (x5_1 < (a0.length : Int)))) rfl (fun hb7 => ?_) (fun hb7 => ?_)
      · replace H := ifT H hb7
        refine Ok.skip ?_
        refine Ok.seq ?_
        refine Ok.block ?_
        refine Ok.seq ?_
        obtain ⟨c4, H⟩ := assertE H
        obtain ⟨c5, H⟩ := assertE H
        refine Ok.drawE (σ' := ⟨[(0, (L 1 (eI .i64) a0)), (1, (L 1 (eI .i64) a1)), (5, (.v (.int .i64 x5_1))), (25, (.v (.bool ((rd a0 x5_1) != (rd a1 x5_1)))))], []⟩) [⟨true, [(0, (L 1 (eI .i64) a0))], (L 1 (eI .i64) a0)⟩, ⟨true, [(5, (.v (.int .i64 x5_1)))], (.v (.int .i64 x5_1))⟩, ⟨true, [(17, (L 1 (eI .i64) a0)), (18, (.v (.int .i64 x5_1)))], (.fp ((eI .i64) (rd a0 x5_1)) 0)⟩, ⟨true, [(19, (.fp ((eI .i64) (rd a0 x5_1)) 0))], (.v (.int .i64 (rd a0 x5_1)))⟩, ⟨true, [(1, (L 1 (eI .i64) a1))], (L 1 (eI .i64) a1)⟩, ⟨true, [(5, (.v (.int .i64 x5_1)))], (.v (.int .i64 x5_1))⟩, ⟨true, [(21, (L 1 (eI .i64) a1)), (22, (.v (.int .i64 x5_1)))], (.fp ((eI .i64) (rd a1 x5_1)) 0)⟩, ⟨true, [(23, (.fp ((eI .i64) (rd a1 x5_1)) 0))], (.v (.int .i64 (rd a1 x5_1)))⟩, ⟨true, [(20, (.v (.int .i64 (rd a0 x5_1)))), (24, (.v (.int .i64 (rd a1 x5_1))))], (.v (.bool ((rd a0 x5_1) != (rd a1 x5_1))))⟩] [[], [], [0, 1], [2], [], [], [4, 5], [6], [3, 7]] mixed (by kernel_rfl) ?_ ?_
        · refine TxtE.cons rfl ⟨.same _, trivial⟩ rfl (VOk.g (VOk.mv (d := (L 1 (eI .i64) a0)) rfl rfl)) ?_
          refine TxtE.cons rfl ⟨.same _, trivial⟩ rfl (VOk.g (VOk.mv (d := (.v (.int .i64 x5_1))) rfl rfl)) ?_
          refine TxtE.cons rfl ⟨.same _, .same _, trivial⟩ rfl (VOk.g (VOk.indexL (sz := 1) (e := (eI .i64)) (xs := a0) (i := x5_1) rfl Try.underlying28 sz3 rfl rfl c4)) ?_
          refine TxtE.cons rfl ⟨.same _, trivial⟩ rfl (VOk.g (VOk.loadFp (d := (.v (.int .i64 (rd a0 x5_1)))) rfl Try.underlying3 rfl rfl rfl)) ?_
          refine TxtE.cons rfl ⟨.same _, trivial⟩ rfl (VOk.g (VOk.mv (d := (L 1 (eI .i64) a1)) rfl rfl)) ?_
          refine TxtE.cons rfl ⟨.same _, trivial⟩ rfl (VOk.g (VOk.mv (d := (.v (.int .i64 x5_1))) rfl rfl)) ?_
          refine TxtE.cons rfl ⟨.same _, .same _, trivial⟩ rfl (VOk.g (VOk.indexL (sz := 1) (e := (eI .i64)) (xs := a1) (i := x5_1) rfl Try.underlying28 sz3 rfl rfl c5)) ?_
          refine TxtE.cons rfl ⟨.same _, trivial⟩ rfl (VOk.g (VOk.loadFp (d := (.v (.int .i64 (rd a1 x5_1)))) rfl Try.underlying3 rfl rfl rfl)) ?_
          refine TxtE.cons rfl ⟨.same _, .same _, trivial⟩ rfl (VOk.g (VOk.arith (op := .neq) (k := .i64) (a := (rd a0 x5_1)) (b := (rd a1 x5_1)) rfl rfl rfl rfl)) ?_
          exact .done (.rf rfl rfl)
        refine Ok.test (b := ((rd a0 x5_1) != (rd a1 x5_1))) rfl (fun hb6 => ?_) (fun hb6 => ?_)
        · replace H := ifT H hb6
          refine Ok.seq ?_
          refine Ok.region (σ' := ⟨[(4, (.v (.bool false)))], []⟩) ?_ ?_
          · refine .cv (VOk.asg (d := (.v (.bool false))) rfl rfl) rfl rfl ?_
            exact .done (.rf rfl rfl)
          refine Ok.ret ?_
          obtain rfl := Option.some.inj H
          exact ⟨.inl rfl, ⟨_, (.cons (.tmp rfl) .nil), rfl⟩, trivial⟩
        · replace H := ifF H hb6
          refine Ok.skip ?_
          refine Ok.region (σ' := ⟨[(0, (L 1 (eI .i64) a0)), (1, (L 1 (eI .i64) a1)), (5, (.v (.int .i64 (IntKind.i64.wrap (x5_1 + 1)))))], []⟩) ?_ ?_
          · refine .cv (VOk.mv (d := (.v (.int .i64 x5_1))) rfl rfl) rfl rfl ?_
            refine .cv (VOk.arith (op := .add) (k := .i64) (a := x5_1) (b := 1) rfl rfl rfl rfl) rfl rfl ?_
            refine .cv (VOk.asg (d := (.v (.int .i64 (IntKind.i64.wrap (x5_1 + 1))))) rfl rfl) rfl rfl ?_
            exact .done (.rf rfl rfl)
          exact ⟨m3, Nat.lt_succ_self m3, (IntKind.i64.wrap (x5_1 + 1)), rfl, H⟩
      · replace H := ifF H hb7
        refine Ok.exit ?_
        refine Ok.seq ?_
        refine Ok.region (σ' := ⟨[(4, (.v (.bool true)))], []⟩) ?_ ?_
        · refine .cv (VOk.asg (d := (.v (.bool true))) rfl rfl) rfl rfl ?_
          exact .done (.rf rfl rfl)
        refine Ok.ret ?_
        obtain rfl := Option.some.inj H
        exact ⟨.inl rfl, ⟨_, (.cons (.tmp rfl) .nil), rfl⟩, trivial⟩

/-! watchbill/watchbilllaw06.elements: function 14 -/
def watchbilllaw06_elements.l0 (k : Nat) (a1 : List Int) : Nat → Int → Str → Str → List T_api_Attr → List T_api_Node → Str → Int → Option Bool
  | 0, _, _, _, _, _, _, _ => none
  | m15 + 1, y2_0_2, y2_1_3, y2_2_4, y2_3_5, y2_4_6, y2_5_7, x5_1 => (if (decide (x5_1 ≤ (a1.length : Int))) = true then (if (0 : Int) ≤ 0 ∧ (0 : Int) ≤ x5_1 ∧ x5_1 ≤ (a1.length : Int) then ((watchbillref06_At k (T_api_Node.mk y2_0_2 (T_api_Name.mk y2_1_3 y2_2_4) y2_3_5 y2_4_6 y2_5_7) (sl a1 0 x5_1)).bind fun (t17 : T_api_Node × Bool) => (if ((!t17.2) || (t17.1.Kind != 1)) = true then some false else watchbilllaw06_elements.l0 k a1 m15 y2_0_2 y2_1_3 y2_2_4 y2_3_5 y2_4_6 y2_5_7 (IntKind.i64.wrap (x5_1 + 1)))) else none) else some true)
def watchbilllaw06_elements (k : Nat) (a0 : T_api_Node) (a1 : List Int) : Option Bool := watchbilllaw06_elements.l0 k a1 k a0.Kind a0.Name.Space a0.Name.Local a0.Attrs a0.Kids a0.Text 0
theorem watchbilllaw06_elements.ok {k : Nat} {a0 : T_api_Node} {a1 : List Int} {r : Bool} (H : watchbilllaw06_elements k a0 a1 = some r) : Vx.Fn Try.prog 14 [(.agg (e_api_Node a0)), (L 1 (eI .i64) a1)] [] (.v (.bool r)) [] := by
  unfold watchbilllaw06_elements at H
  refine Vx.Fn.of_okR Try.func14 rfl (Nat.le_of_ble_eq_true rfl) ?_
  refine Ok.seq ?_
  refine Ok.region (σ' := ⟨[(1, (L 1 (eI .i64) a1)), (2, (.bref 2 0))], [(2, (.box .ex (c_api_Node a0)))]⟩) ?_ ?_
  · refine OpsOk.cut1 0 (.agg [(.v (.int .i64 a0.Kind)), (S a0.Name.Space), (S a0.Name.Local), (L 3 e_api_Attr a0.Attrs), (L 6 e_api_Node a0.Kids), (S a0.Text)]) (DLe.of_eq (congrArg D.agg (e_api_Node_c _).symm)) ?_
    refine OpsOk.cons rfl (OpOk.box 2 (cells := [(.v (.int .i64 a0.Kind)), (S a0.Name.Space), (S a0.Name.Local), (L 3 e_api_Attr a0.Attrs), (L 6 e_api_Node a0.Kids), (S a0.Text)]) rfl rfl rfl rfl) ?_
    refine .cv (VOk.asg (d := (.v (.bool false))) rfl rfl) rfl rfl ?_
    exact .done (.rf rfl rfl)
  refine Ok.seq ?_
  refine Ok.seq ?_
  refine Ok.region (σ' := ⟨[(1, (L 1 (eI .i64) a1)), (2, (.bref 2 0)), (5, (.v (.int .i64 0)))], [(2, (.box .ex (c_api_Node a0)))]⟩) ?_ ?_
  · refine .cv (VOk.asg (d := (.v (.int .i64 0))) rfl rfl) rfl rfl ?_
    exact .done (.rf rfl rfl)
  refine Ok.block ?_
  refine Ok.le (σ' := ⟨[(1, (L 1 (eI .i64) a1)), (2, (.bref 2 0)), (5, (.v (.int .i64 0)))], [(2, (.box .ex (c_api_Node a0)))]⟩) (.rf rfl rfl) ?_
  refine Ok.loop (fun m15 σ => ∃ (y2_0_2 : Int) (y2_1_3 : Str) (y2_2_4 : Str) (y2_3_5 : List T_api_Attr) (y2_4_6 : List T_api_Node) (y2_5_7 : Str) (x5_1 : Int), σ = ⟨[(1, (L 1 (eI .i64) a1)), (2, (.bref 2 0)), (5, (.v (.int .i64 x5_1)))], [(2, (.box .ex [(.v (.int .i64 y2_0_2)), (S y2_1_3), (S y2_2_4), (L 3 e_api_Attr y2_3_5), (L 6 e_api_Node y2_4_6), (S y2_5_7)]))]⟩ ∧ watchbilllaw06_elements.l0 k a1 m15 y2_0_2 y2_1_3 y2_2_4 y2_3_5 y2_4_6 y2_5_7 x5_1 = some r) k ⟨a0.Kind, a0.Name.Space, a0.Name.Local, a0.Attrs, a0.Kids, a0.Text, 0, rfl, H⟩ ?_
  rintro m15 σ ⟨y2_0_2, y2_1_3, y2_2_4, y2_3_5, y2_4_6, y2_5_7, x5_1, rfl, H⟩
  cases m15 with
  | zero => exact absurd H (by simp [watchbilllaw06_elements.l0])
  | succ m15 =>
    unfold watchbilllaw06_elements.l0 at H
    refine Ok.seq ?_
    refine Ok.seq ?_
    refine Ok.region (σ' := ⟨[(1, (L 1 (eI .i64) a1)), (2, (.bref 2 0)), (5, (.v (.int .i64 x5_1))), (11, (.v (.bool (decide (x5_1 ≤ (a1.length : Int))))))], [(2, (.box .ex [(.v (.int .i64 y2_0_2)), (S y2_1_3), (S y2_2_4), (L 3 e_api_Attr y2_3_5), (L 6 e_api_Node y2_4_6), (S y2_5_7)]))]⟩) ?_ ?_
    · refine .cv (VOk.mv (d := (.v (.int .i64 x5_1))) rfl rfl) rfl rfl ?_
      refine .cv (VOk.mv (d := (L 1 (eI .i64) a1)) rfl rfl) rfl rfl ?_
      refine .cv (VOk.lenL (e := (eI .i64)) (xs := a1) rfl Try.underlying28 rfl) rfl rfl ?_
      refine .cv (VOk.arith (op := .leq) (k := .i64) (a := x5_1) (b := (a1.length : Int)) rfl rfl rfl rfl) rfl rfl ?_
      exact .done (.rf rfl rfl)
    refine Ok.test (b := (decide (x5_1 ≤ (a1.length : Int)))) rfl (fun hb22 => ?_) (fun hb22 => ?_)
    · replace H := ifT H hb22
      refine Ok.skip ?_
      refine Ok.seq ?_
      refine Ok.block ?_
      refine Ok.seq ?_
      obtain ⟨c16, H⟩ := assertE H
      obtain ⟨t17, h18, H⟩ := bindE H
      refine Ok.le (σ' := ⟨[(1, (L 1 (eI .i64) a1)), (2, (.bref 2 0)), (5, (.v (.int .i64 x5_1)))], [(2, (.box .ex [(.v (.int .i64 y2_0_2)), (S y2_1_3), (S y2_2_4), (L 3 e_api_Attr y2_3_5), (L 6 e_api_Node y2_4_6), (S y2_5_7)]))]⟩) (.rf rfl rfl) ?_
      refine Ok.drawE2 (σ' := ⟨[(1, (L 1 (eI .i64) a1)), (2, (.bref 2 0)), (5, (.v (.int .i64 x5_1))), (6, (.bref 6 0)), (7, (.v (.bool t17.2)))], [(2, (.box .ex [(.v (.int .i64 y2_0_2)), (S y2_1_3), (S y2_2_4), (L 3 e_api_Attr y2_3_5), (L 6 e_api_Node y2_4_6), (S y2_5_7)])), (6, (.box .ex (c_api_Node t17.1)))]⟩) [⟨true, [(2, (.bref 2 0))], [(2, (.box .ex [(.v (.int .i64 y2_0_2)), (S y2_1_3), (S y2_2_4), (L 3 e_api_Attr y2_3_5), (L 6 e_api_Node y2_4_6), (S y2_5_7)]))], (.agg (e_api_Node (T_api_Node.mk y2_0_2 (T_api_Name.mk y2_1_3 y2_2_4) y2_3_5 y2_4_6 y2_5_7))), [], false, []⟩, ⟨true, [(1, (L 1 (eI .i64) a1))], [], (L 1 (eI .i64) a1), [], false, []⟩, ⟨true, [(5, (.v (.int .i64 x5_1)))], [], (.v (.int .i64 x5_1)), [], false, []⟩, ⟨true, [(16, (L 1 (eI .i64) a1)), (17, (.v (.int .i64 x5_1)))], [], (L 1 (eI .i64) (sl a1 0 x5_1)), [], false, []⟩, ⟨true, [(15, (.agg (e_api_Node (T_api_Node.mk y2_0_2 (T_api_Name.mk y2_1_3 y2_2_4) y2_3_5 y2_4_6 y2_5_7)))), (18, (L 1 (eI .i64) (sl a1 0 x5_1)))], [], (.tup [(.agg (e_api_Node t17.1)), (.v (.bool t17.2))]), [], false, []⟩, ⟨true, [(19, (.tup [(.agg (e_api_Node t17.1)), (.v (.bool t17.2))]))], [], (.tup [(.agg (e_api_Node t17.1)), (.v (.bool t17.2))]), [], false, []⟩, ⟨true, [(14, (.tup [(.agg (e_api_Node t17.1)), (.v (.bool t17.2))]))], [], (.agg (e_api_Node t17.1)), [], false, []⟩, ⟨true, [(14, (.tup [(.agg (e_api_Node t17.1)), (.v (.bool t17.2))]))], [], (.v (.bool t17.2)), [], false, []⟩, ⟨true, [], [], (.bref 6 0), [(6, (.box .ex [(.v (.int .i64 0)), (S ([] : Str)), (S ([] : Str)), (L 3 e_api_Attr ([] : List T_api_Attr)), (L 6 e_api_Node ([] : List T_api_Node)), (S ([] : Str))]))], true, []⟩, ⟨true, [(6, (.bref 6 0)), (20, (.agg [(.v (.int .i64 t17.1.Kind)), (S t17.1.Name.Space), (S t17.1.Name.Local), (L 3 e_api_Attr t17.1.Attrs), (L 6 e_api_Node t17.1.Kids), (S t17.1.Text)]))], [(6, (.box .ex [(.v (.int .i64 0)), (S ([] : Str)), (S ([] : Str)), (L 3 e_api_Attr ([] : List T_api_Attr)), (L 6 e_api_Node ([] : List T_api_Node)), (S ([] : Str))]))], .junk, [(6, (.box .ex (c_api_Node t17.1)))], false, []⟩, ⟨true, [(21, (.v (.bool t17.2)))], [], (.v (.bool t17.2)), [], false, []⟩] [[], [], [], [1, 2], [0, 3], [4], [5], [5], [], [6, 8], [7]] mixed (by kernel_rfl) ?_ ?_
      · refine TxtE2.cons ⟨.same _, trivial⟩ ⟨rfl, trivial⟩ (It2.val rfl rfl (fun T hT => (VOk.g (VOk.to (d' := (.agg (e_api_Node (T_api_Node.mk y2_0_2 (T_api_Name.mk y2_1_3 y2_2_4) y2_3_5 y2_4_6 y2_5_7)))) (.loadBAgg rfl Try.underlying27 rfl sz27 rfl hT.1 rfl) (congrArg D.agg (e_api_Node_c (T_api_Node.mk y2_0_2 (T_api_Name.mk y2_1_3 y2_2_4) y2_3_5 y2_4_6 y2_5_7)).symm))))) ?_
        refine TxtE2.cons ⟨.same _, trivial⟩ trivial (It2.val rfl rfl (fun T hT => (VOk.g (VOk.mv (d := (L 1 (eI .i64) a1)) rfl rfl)))) ?_
        refine TxtE2.cons ⟨.same _, trivial⟩ trivial (It2.val rfl rfl (fun T hT => (VOk.g (VOk.mv (d := (.v (.int .i64 x5_1))) rfl rfl)))) ?_
        refine TxtE2.cons ⟨.same _, .same _, trivial⟩ trivial (It2.val rfl rfl (fun T hT => (VOk.g (VOk.sliceL (e := (eI .i64)) (xs := a1) (l := 0) (h := x5_1) rfl Try.underlying28 sz3 rfl rfl rfl c16)))) ?_
        refine TxtE2.cons ⟨.same _, .same _, trivial⟩ trivial (It2.val rfl rfl (fun T hT => (GOk.call rfl rfl cl9 rfl (watchbillref06_At.ok h18) rfl))) ?_
        refine TxtE2.cons ⟨.same _, trivial⟩ trivial (It2.val rfl rfl (fun T hT => (VOk.g (VOk.mv (d := (.tup [(.agg (e_api_Node t17.1)), (.v (.bool t17.2))])) rfl rfl)))) ?_
        refine TxtE2.cons ⟨.same _, trivial⟩ trivial (It2.val rfl rfl (fun T hT => (VOk.g (VOk.extract (d := (.agg (e_api_Node t17.1))) rfl rfl rfl)))) ?_
        refine TxtE2.cons ⟨.same _, trivial⟩ trivial (It2.val rfl rfl (fun T hT => (VOk.g (VOk.extract (d := (.v (.bool t17.2))) rfl rfl rfl)))) ?_
        refine TxtE2.cons trivial trivial (It2.alloc 6 [none, none, none, some 3, some 6, none] rfl rfl zo27 rfl rfl) ?_
        refine TxtE2.cons ⟨.same _, DLe.of_eq (congrArg D.agg (e_api_Node_c _).symm), trivial⟩ ⟨rfl, trivial⟩ (It2.store rfl rfl sz27 rfl rfl rfl rfl rfl rfl rfl rfl) ?_
        refine TxtE2.cons ⟨.same _, trivial⟩ trivial (It2.val rfl rfl (fun T hT => (VOk.g (VOk.asg (d := (.v (.bool t17.2))) rfl rfl)))) ?_
        exact .done (.rf rfl rfl)
      refine Ok.seq ?_
      refine Ok.region (σ' := ⟨[(1, (L 1 (eI .i64) a1)), (2, (.bref 2 0)), (5, (.v (.int .i64 x5_1))), (28, (.v (.bool ((!t17.2) || (t17.1.Kind != 1)))))], [(2, (.box .ex [(.v (.int .i64 y2_0_2)), (S y2_1_3), (S y2_2_4), (L 3 e_api_Attr y2_3_5), (L 6 e_api_Node y2_4_6), (S y2_5_7)]))]⟩) ?_ ?_
      · refine .cv (VOk.mv (d := (.v (.bool t17.2))) rfl rfl) rfl rfl ?_
        refine .cv (VOk.not (b := t17.2) rfl rfl) rfl rfl ?_
        refine .cv (VOk.mv (d := (.v (.bool (!t17.2)))) rfl rfl) rfl rfl ?_
        refine OpsOk.consI rfl rfl rfl (.one rfl) rfl (fun hw19 => (VOk.g (VOk.to (VOk.fieldB rfl Try.underlying27 rfl sz3 rfl rfl) rfl))) ?_
        refine OpsOk.consI rfl rfl rfl (.one rfl) rfl (fun hw19 => (GOk.fr (fr' := [(25, (.bref 6 0))]) ⟨DLe.of_eq (cT hw19).symm, trivial⟩ (VOk.g (VOk.loadB (d := (.v (.int .i64 t17.1.Kind))) rfl Try.underlying3 rfl rfl rfl rfl)))) ?_
        refine OpsOk.consI rfl rfl rfl (.one rfl) rfl (fun hw19 => (GOk.fr (fr' := [(26, (.v (.int .i64 t17.1.Kind)))]) ⟨DLe.of_eq (cT hw19).symm, trivial⟩ (VOk.g (VOk.arith (op := .neq) (k := .i64) (a := t17.1.Kind) (b := 1) rfl rfl rfl rfl)))) ?_
        refine .cv (VOk.to (VOk.pickI (b := (!t17.2)) (p := true) (q := (t17.1.Kind != 1)) rfl rfl (fun hp20 => rfl) (fun hp20 => (cT (f_beq hp20)))) (pickOr (!t17.2) (t17.1.Kind != 1))) rfl rfl ?_
        exact .done (.rf rfl rfl)
      refine Ok.test (b := ((!t17.2) || (t17.1.Kind != 1))) rfl (fun hb21 => ?_) (fun hb21 => ?_)
      · replace H := ifT H hb21
        refine Ok.seq ?_
        refine Ok.region (σ' := ⟨[(4, (.v (.bool false)))], []⟩) ?_ ?_
        · refine .cv (VOk.asg (d := (.v (.bool false))) rfl rfl) rfl rfl ?_
          exact .done (.rf rfl rfl)
        refine Ok.ret ?_
        obtain rfl := Option.some.inj H
        exact ⟨.inl rfl, ⟨_, (.cons (.tmp rfl) .nil), rfl⟩, trivial⟩
      · replace H := ifF H hb21
        refine Ok.skip ?_
        refine Ok.region (σ' := ⟨[(1, (L 1 (eI .i64) a1)), (2, (.bref 2 0)), (5, (.v (.int .i64 (IntKind.i64.wrap (x5_1 + 1)))))], [(2, (.box .ex [(.v (.int .i64 y2_0_2)), (S y2_1_3), (S y2_2_4), (L 3 e_api_Attr y2_3_5), (L 6 e_api_Node y2_4_6), (S y2_5_7)]))]⟩) ?_ ?_
        · refine .cv (VOk.mv (d := (.v (.int .i64 x5_1))) rfl rfl) rfl rfl ?_
          refine .cv (VOk.arith (op := .add) (k := .i64) (a := x5_1) (b := 1) rfl rfl rfl rfl) rfl rfl ?_
          refine .cv (VOk.asg (d := (.v (.int .i64 (IntKind.i64.wrap (x5_1 + 1))))) rfl rfl) rfl rfl ?_
          exact .done (.rf rfl rfl)
        exact ⟨m15, Nat.lt_succ_self m15, y2_0_2, y2_1_3, y2_2_4, y2_3_5, y2_4_6, y2_5_7, (IntKind.i64.wrap (x5_1 + 1)), rfl, H⟩
    · replace H := ifF H hb22
      refine Ok.exit ?_
      refine Ok.seq ?_
      refine Ok.region (σ' := ⟨[(4, (.v (.bool true)))], []⟩) ?_ ?_
      · refine .cv (VOk.asg (d := (.v (.bool true))) rfl rfl) rfl rfl ?_
        exact .done (.rf rfl rfl)
      refine Ok.ret ?_
      obtain rfl := Option.some.inj H
      exact ⟨.inl rfl, ⟨_, (.cons (.tmp rfl) .nil), rfl⟩, trivial⟩

end Go.Proofs.Ytjhbedgepfkdbaa.Sh
