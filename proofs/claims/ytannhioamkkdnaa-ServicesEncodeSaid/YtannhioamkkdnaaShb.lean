import Derived.Test.YtannhioamkkdnaaProg
import Derived.Test.YtannhioamkkdnaaSha
namespace Go.Proofs.Ytannhioamkkdnaa.Sh
open Go Go.RowKit Go.Proofs.Vx
set_option linter.unusedVariables false

set_option maxRecDepth 100000
set_option maxHeartbeats 1000000
/-! watchbill/services.list: function 49 -/
def services_list : Option T_api_Name := ((uri_Space ([114, 101, 115, 111, 117, 114, 99, 101, 45, 108, 105, 115, 116, 115] : Str)).bind fun (t1 : Str) => some (T_api_Name.mk t1 ([108, 105, 115, 116] : Str)))
theorem services_list.ok {r : T_api_Name} (H : services_list = some r) : Vx.Fn Try.prog 49 [] [] (.agg (e_api_Name r)) [] := by
  unfold services_list at H
  refine Vx.Fn.of_okR Try.func49 rfl (Nat.le_of_ble_eq_true rfl) ?_
  refine Ok.seq ?_
  refine Ok.region (σ' := ⟨[(0, (.bref 0 0))], [(0, (.box .ex [(S ([] : Str)), (S ([] : Str))]))]⟩) ?_ ?_
  · refine OpsOk.cons rfl (OpOk.alloc 0 [none, none] rfl zo23 rfl rfl) ?_
    exact .done (.rf rfl rfl)
  refine Ok.seq ?_
  obtain ⟨t1, h2, H⟩ := bindE H
  refine Ok.region (σ' := ⟨[(0, (.bref 0 0))], [(0, (.box .ex [(S ((T_api_Name.mk t1 ([108, 105, 115, 116] : Str)).Space)), (S ((T_api_Name.mk t1 ([108, 105, 115, 116] : Str)).Local))]))]⟩) ?_ ?_
  · refine .cg (GOk.call rfl rfl cl45 rfl (uri_Space.ok h2) rfl) rfl rfl ?_
    refine .cv (VOk.to (d' := (.agg (e_api_Name (T_api_Name.mk t1 ([108, 105, 115, 116] : Str))))) (.build [none, none] [(0, 1), (1, 1)] rfl Try.underlying23 (fa23 Try.underlying23) zo23 rfl rfl) rfl) rfl rfl ?_
    refine OpsOk.cons rfl (OpOk.to (σ2 := St.put ⟨_, (0, (.box .ex [(S ((T_api_Name.mk t1 ([108, 105, 115, 116] : Str)).Space)), (S ((T_api_Name.mk t1 ([108, 105, 115, 116] : Str)).Local))])) :: _⟩ _ .junk) (.storeB rfl sz23 rfl rfl rfl rfl rfl rfl) rfl) ?_
    exact .done (.rf rfl rfl)
  refine Ok.ret ?_
  obtain rfl := Option.some.inj H
  exact ⟨.inl rfl, ⟨_, (.cons (.cell (VOk.to (d' := (.agg (e_api_Name (T_api_Name.mk t1 ([108, 105, 115, 116] : Str))))) (.loadBAgg rfl Try.underlying23 rfl sz23 rfl rfl rfl) rfl)) .nil), rfl⟩, trivial⟩

/-! watchbill/services.kids: function 48 -/
def services_kids.l0 (k : Nat) (a0 : T_api_Node) : Nat → List T_api_Node → Int → Option ((List T_api_Node) × Bool)
  | 0, _, _ => none
  | m5 + 1, y4_2, x10_1 => (if (decide (x10_1 < (a0.Kids.length : Int))) = true then (if (0 : Int) ≤ x10_1 ∧ x10_1 < (a0.Kids.length : Int) then (((if ((((rd a0.Kids x10_1).Kind) == 2) == true) = true then utf_Trim k ((rd a0.Kids x10_1).Text) else some default)).bind fun (t8 : Str) => (if ((((rd a0.Kids x10_1).Kind) == 2) && (!(t8 == ([] : Str)))) = true then some (([] : List T_api_Node), false) else (((if ((((rd a0.Kids x10_1).Kind) == 1) == true) = true then services_own ([] : Str) else some default)).bind fun (t12 : T_api_Name) => (((if (((((rd a0.Kids x10_1).Kind) == 1) == true) && ((((rd a0.Kids x10_1).Name.Space) == t12.Space) == false)) = true then services_list else some default)).bind fun (t15 : T_api_Name) => (if ((((rd a0.Kids x10_1).Kind) == 1) && ((((rd a0.Kids x10_1).Name.Space) == t12.Space) || (((rd a0.Kids x10_1).Name).Space == t15.Space && (((rd a0.Kids x10_1).Name).Local == t15.Local && true)))) = true then (if (y4_2.length + ([(rd a0.Kids x10_1)] : List T_api_Node).length) * 104 ≤ 140737488355328 then services_kids.l0 k a0 m5 (y4_2 ++ ([(rd a0.Kids x10_1)] : List T_api_Node)) (IntKind.i64.wrap (x10_1 + 1)) else none) else services_kids.l0 k a0 m5 y4_2 (IntKind.i64.wrap (x10_1 + 1))))))) else none) else some (y4_2, true))
def services_kids (k : Nat) (a0 : T_api_Node) : Option ((List T_api_Node) × Bool) := services_kids.l0 k a0 k ([] : List T_api_Node) 0
theorem services_kids.ok {k : Nat} {a0 : T_api_Node} {r : (List T_api_Node) × Bool} (H : services_kids k a0 = some r) : Vx.Fn Try.prog 48 [(.agg (e_api_Node a0))] [] (.tup [(L 6 e_api_Node r.1), (.v (.bool r.2))]) [] := by
  unfold services_kids at H
  refine Vx.Fn.of_okR Try.func48 rfl (Nat.le_of_ble_eq_true rfl) ?_
  refine Ok.seq ?_
  refine Ok.region (σ' := ⟨[(1, (.bref 1 0))], [(1, (.box .ex (c_api_Node a0)))]⟩) ?_ ?_
  · refine OpsOk.cut1 0 (.agg [(.v (.int .i64 a0.Kind)), (S a0.Name.Space), (S a0.Name.Local), (L 3 e_api_Attr a0.Attrs), (L 6 e_api_Node a0.Kids), (S a0.Text)]) (DLe.of_eq (congrArg D.agg (e_api_Node_c _).symm)) ?_
    refine OpsOk.cons rfl (OpOk.box 1 (cells := [(.v (.int .i64 a0.Kind)), (S a0.Name.Space), (S a0.Name.Local), (L 3 e_api_Attr a0.Attrs), (L 6 e_api_Node a0.Kids), (S a0.Text)]) rfl rfl rfl rfl) ?_
    refine .cv (VOk.asg (d := (.v (.slice none 0 0))) rfl rfl) rfl rfl ?_
    refine .cv (VOk.asg (d := (.v (.bool false))) rfl rfl) rfl rfl ?_
    exact .done (.rf rfl rfl)
  refine Ok.seq ?_
  refine Ok.region (σ' := ⟨[(1, (.bref 1 0)), (4, (.sref 4))], [(1, (.box .ex (c_api_Node a0))), (4, (.rows true 27 6 (([] : List T_api_Node).map e_api_Node)))]⟩) ?_ ?_
  · refine OpsOk.cons rfl (.nilT 4 27 6 (.inl rfl) rfl rfl) ?_
    exact .done (.rf rfl rfl)
  refine Ok.seq ?_
  refine Ok.seq ?_
  refine Ok.region (σ' := ⟨[(4, (.sref 4)), (8, (L 6 e_api_Node a0.Kids)), (9, (.v (.int .i64 (a0.Kids.length : Int)))), (10, (.v (.int .i64 0)))], [(4, (.rows true 27 6 (([] : List T_api_Node).map e_api_Node)))]⟩) ?_ ?_
  · refine .cv (VOk.to (VOk.fieldB rfl Try.underlying27 rfl sz25 rfl rfl) rfl) rfl rfl ?_
    refine .cv (VOk.loadB (d := (L 6 e_api_Node a0.Kids)) rfl Try.underlying25 rfl rfl rfl rfl) rfl rfl ?_
    refine .cv (VOk.lenL (e := e_api_Node) (xs := a0.Kids) rfl Try.underlying25 rfl) rfl rfl ?_
    refine .cv (VOk.mv (d := (.v (.int .i64 0))) rfl rfl) rfl rfl ?_
    exact .done (.rf rfl rfl)
  refine Ok.block ?_
  refine Ok.le (σ' := ⟨[(4, (.sref 4)), (8, (L 6 e_api_Node a0.Kids)), (9, (.v (.int .i64 (a0.Kids.length : Int)))), (10, (.v (.int .i64 0)))], [(4, (.rows true 27 6 (([] : List T_api_Node).map e_api_Node)))]⟩) (.rf rfl rfl) ?_
  refine Ok.loop (fun m5 σ => ∃ (y4_2 : List T_api_Node) (x10_1 : Int), σ = ⟨[(4, (.sref 4)), (8, (L 6 e_api_Node a0.Kids)), (9, (.v (.int .i64 (a0.Kids.length : Int)))), (10, (.v (.int .i64 x10_1)))], [(4, (.rows true 27 6 (y4_2.map e_api_Node)))]⟩ ∧ services_kids.l0 k a0 m5 y4_2 x10_1 = some r) k ⟨([] : List T_api_Node), 0, rfl, H⟩ ?_
  rintro m5 σ ⟨y4_2, x10_1, rfl, H⟩
  cases m5 with
  | zero => exact absurd H (by simp [services_kids.l0])
  | succ m5 =>
    unfold services_kids.l0 at H
    refine Ok.seq ?_
    refine Ok.region (σ' := ⟨[(4, (.sref 4)), (8, (L 6 e_api_Node a0.Kids)), (9, (.v (.int .i64 (a0.Kids.length : Int)))), (10, (.v (.int .i64 x10_1))), (11, (.v (.bool (decide (x10_1 < (a0.Kids.length : Int))))))], [(4, (.rows true 27 6 (y4_2.map e_api_Node)))]⟩) ?_ ?_
    · refine .cv (VOk.arith (op := .lss) (k := .i64) (a := x10_1) (b := (a0.Kids.length : Int)) rfl rfl rfl rfl) rfl rfl ?_
      exact .done (.rf rfl rfl)
    refine Ok.seq ?_
    refine Ok.test (b := (decide (x10_1 < (a0.Kids.length : Int)))) rfl (fun hb22 => ?_) (fun hb22 => ?_)
    · replace H := ifT H hb22
      refine Ok.skip ?_
      refine Ok.seq ?_
      refine Ok.block ?_
      refine Ok.seq ?_
      obtain ⟨c6, H⟩ := assertE H
      refine Ok.region (σ' := ⟨[(4, (.sref 4)), (6, (.bref 6 0)), (8, (L 6 e_api_Node a0.Kids)), (9, (.v (.int .i64 (a0.Kids.length : Int)))), (10, (.v (.int .i64 x10_1)))], [(4, (.rows true 27 6 (y4_2.map e_api_Node))), (6, (.box .ex (c_api_Node (rd a0.Kids x10_1))))]⟩) ?_ ?_
      · refine .cv (VOk.indexL (sz := 6) (e := e_api_Node) (xs := a0.Kids) (i := x10_1) rfl Try.underlying25 sz27 rfl rfl c6) rfl rfl ?_
        refine .cv (VOk.to (d' := (.agg (e_api_Node (rd a0.Kids x10_1)))) (.loadFpAgg rfl Try.underlying27 rfl sz27 rfl rfl) rfl) rfl rfl ?_
        refine OpsOk.cons rfl (OpOk.alloc 6 [none, none, none, some 3, some 6, none] rfl zo27 rfl rfl) ?_
        refine OpsOk.cut1 13 (.agg [(.v (.int .i64 ((rd a0.Kids x10_1).Kind))), (S ((rd a0.Kids x10_1).Name.Space)), (S ((rd a0.Kids x10_1).Name.Local)), (L 3 e_api_Attr ((rd a0.Kids x10_1).Attrs)), (L 6 e_api_Node ((rd a0.Kids x10_1).Kids)), (S ((rd a0.Kids x10_1).Text))]) (DLe.of_eq (congrArg D.agg (e_api_Node_c _).symm)) ?_
        refine OpsOk.cons rfl (OpOk.to (σ2 := St.put ⟨_, (6, (.box .ex (c_api_Node (rd a0.Kids x10_1)))) :: _⟩ _ .junk) (.storeB rfl sz27 rfl rfl rfl rfl rfl rfl) rfl) ?_
        exact .done (.rf rfl rfl)
      refine Ok.block ?_
      refine Ok.seq ?_
      obtain ⟨t8, h9, H⟩ := bindE H
      refine Ok.region (σ' := ⟨[(4, (.sref 4)), (6, (.bref 6 0)), (8, (L 6 e_api_Node a0.Kids)), (9, (.v (.int .i64 (a0.Kids.length : Int)))), (10, (.v (.int .i64 x10_1))), (14, (.v (.bool ((((rd a0.Kids x10_1).Kind) == 2) && (!(t8 == ([] : Str)))))))], [(4, (.rows true 27 6 (y4_2.map e_api_Node))), (6, (.box .ex (c_api_Node (rd a0.Kids x10_1))))]⟩) ?_ ?_
      · refine .cv (VOk.to (VOk.fieldB rfl Try.underlying27 rfl sz3 rfl rfl) rfl) rfl rfl ?_
        refine .cv (VOk.loadB (d := (.v (.int .i64 ((rd a0.Kids x10_1).Kind)))) rfl Try.underlying3 rfl rfl rfl rfl) rfl rfl ?_
        refine .cv (VOk.arith (op := .eql) (k := .i64) (a := (rd a0.Kids x10_1).Kind) (b := 2) rfl rfl rfl rfl) rfl rfl ?_
        refine .cv (VOk.mv (d := (.v (.bool (((rd a0.Kids x10_1).Kind) == 2)))) rfl rfl) rfl rfl ?_
        refine OpsOk.consI rfl rfl rfl (.one rfl) rfl (fun hw7 => (VOk.g (VOk.to (VOk.fieldB rfl Try.underlying27 rfl sz9 rfl rfl) rfl))) ?_
        refine OpsOk.consI rfl rfl rfl (.one rfl) rfl (fun hw7 => (GOk.fr (fr' := [(19, (.bref 6 5))]) ⟨DLe.of_eq (cT hw7).symm, trivial⟩ (VOk.g (VOk.loadB (d := (S ((rd a0.Kids x10_1).Text))) rfl Try.underlying9 rfl rfl rfl rfl)))) ?_
        refine OpsOk.consI rfl rfl rfl (.one rfl) rfl (fun hw7 => (GOk.fr (fr' := [(20, (S ((rd a0.Kids x10_1).Text)))]) ⟨DLe.of_eq (cT hw7).symm, trivial⟩ (GOk.call rfl rfl cl25 rfl (utf_Trim.ok (ifT h9 hw7)) rfl))) ?_
        refine OpsOk.consI rfl rfl rfl (.one rfl) rfl (fun hw7 => (GOk.fr (fr' := [(21, (S t8))]) ⟨DLe.of_eq (cT hw7).symm, trivial⟩ (VOk.g (VOk.strOp (op := .neq) (a := t8) (b := ([] : Str)) rfl rfl rfl rfl)))) ?_
        refine .cv (VOk.to (VOk.pickI (b := (((rd a0.Kids x10_1).Kind) == 2)) (p := (!(t8 == ([] : Str)))) (q := false) rfl rfl (fun hp10 => (cT (t_beq hp10))) (fun hp10 => rfl)) (pickAnd (((rd a0.Kids x10_1).Kind) == 2) (!(t8 == ([] : Str))))) rfl rfl ?_
        refine .cv (VOk.asg (d := (.v (.bool ((((rd a0.Kids x10_1).Kind) == 2) && (!(t8 == ([] : Str))))))) rfl rfl) rfl rfl ?_
        exact .done (.rf rfl rfl)
      refine Ok.test (b := ((((rd a0.Kids x10_1).Kind) == 2) && (!(t8 == ([] : Str))))) rfl (fun hb21 => ?_) (fun hb21 => ?_)
      · replace H := ifT H hb21
        refine Ok.seq ?_
        refine Ok.region (σ' := ⟨[(2, (.v (.slice none 0 0))), (3, (.v (.bool false)))], []⟩) ?_ ?_
        · refine .cv (VOk.asg (d := (.v (.slice none 0 0))) rfl rfl) rfl rfl ?_
          refine .cv (VOk.asg (d := (.v (.bool false))) rfl rfl) rfl rfl ?_
          exact .done (.rf rfl rfl)
        refine Ok.le (σ' := ⟨[(2, (L 6 e_api_Node ([] : List T_api_Node))), (3, (.v (.bool false)))], []⟩) (.mk ⟨.nil _, .same _, trivial⟩ trivial) ?_
        refine Ok.ret ?_
        obtain rfl := Option.some.inj H
        exact ⟨.inl rfl, ⟨_, (.cons (.tmp rfl) (.cons (.tmp rfl) .nil)), rfl⟩, trivial⟩
      · replace H := ifF H hb21
        refine Ok.seq ?_
        obtain ⟨t12, h13, H⟩ := bindE H
        obtain ⟨t15, h16, H⟩ := bindE H
        refine Ok.drawE (σ' := ⟨[(4, (.sref 4)), (6, (.bref 6 0)), (8, (L 6 e_api_Node a0.Kids)), (9, (.v (.int .i64 (a0.Kids.length : Int)))), (10, (.v (.int .i64 x10_1))), (24, (.v (.bool ((((rd a0.Kids x10_1).Kind) == 1) && ((((rd a0.Kids x10_1).Name.Space) == t12.Space) || (((rd a0.Kids x10_1).Name).Space == t15.Space && (((rd a0.Kids x10_1).Name).Local == t15.Local && true)))))))], [(4, (.rows true 27 6 (y4_2.map e_api_Node))), (6, (.box .ex (c_api_Node (rd a0.Kids x10_1))))]⟩) [⟨true, [(6, (.bref 6 0))], (.bref 6 0)⟩, ⟨true, [(25, (.bref 6 0))], (.v (.int .i64 ((rd a0.Kids x10_1).Kind)))⟩, ⟨true, [(26, (.v (.int .i64 ((rd a0.Kids x10_1).Kind))))], (.v (.bool (((rd a0.Kids x10_1).Kind) == 1)))⟩, ⟨true, [(27, (.v (.bool (((rd a0.Kids x10_1).Kind) == 1))))], (.v (.bool (((rd a0.Kids x10_1).Kind) == 1)))⟩, It.I ((((rd a0.Kids x10_1).Kind) == 1) == true) [(6, (.bref 6 0)), (28, (.v (.bool (((rd a0.Kids x10_1).Kind) == 1))))] (.bref 6 1), It.I ((((rd a0.Kids x10_1).Kind) == 1) == true) [(29, (bif ((((rd a0.Kids x10_1).Kind) == 1) == true) then (.bref 6 1) else .v undef)), (28, (.v (.bool (((rd a0.Kids x10_1).Kind) == 1))))] (.bref 6 1), It.I ((((rd a0.Kids x10_1).Kind) == 1) == true) [(30, (bif ((((rd a0.Kids x10_1).Kind) == 1) == true) then (.bref 6 1) else .v undef)), (28, (.v (.bool (((rd a0.Kids x10_1).Kind) == 1))))] (S ((rd a0.Kids x10_1).Name.Space)), It.I ((((rd a0.Kids x10_1).Kind) == 1) == true) [(28, (.v (.bool (((rd a0.Kids x10_1).Kind) == 1))))] (.agg (e_api_Name t12)), It.I ((((rd a0.Kids x10_1).Kind) == 1) == true) [(32, (bif ((((rd a0.Kids x10_1).Kind) == 1) == true) then (.agg (e_api_Name t12)) else .v undef)), (28, (.v (.bool (((rd a0.Kids x10_1).Kind) == 1))))] (S t12.Space), It.I ((((rd a0.Kids x10_1).Kind) == 1) == true) [(31, (bif ((((rd a0.Kids x10_1).Kind) == 1) == true) then (S ((rd a0.Kids x10_1).Name.Space)) else .v undef)), (33, (bif ((((rd a0.Kids x10_1).Kind) == 1) == true) then (S t12.Space) else .v undef)), (28, (.v (.bool (((rd a0.Kids x10_1).Kind) == 1))))] (.v (.bool (((rd a0.Kids x10_1).Name.Space) == t12.Space))), It.I ((((rd a0.Kids x10_1).Kind) == 1) == true) [(34, (bif ((((rd a0.Kids x10_1).Kind) == 1) == true) then (.v (.bool (((rd a0.Kids x10_1).Name.Space) == t12.Space))) else .v undef)), (28, (.v (.bool (((rd a0.Kids x10_1).Kind) == 1))))] (.v (.bool (((rd a0.Kids x10_1).Name.Space) == t12.Space))), It.I (((((rd a0.Kids x10_1).Kind) == 1) == true) && ((((rd a0.Kids x10_1).Name.Space) == t12.Space) == false)) [(6, (.bref 6 0)), (35, (bif ((((rd a0.Kids x10_1).Kind) == 1) == true) then (.v (.bool (((rd a0.Kids x10_1).Name.Space) == t12.Space))) else .v undef))] (.bref 6 1), It.I (((((rd a0.Kids x10_1).Kind) == 1) == true) && ((((rd a0.Kids x10_1).Name.Space) == t12.Space) == false)) [(36, (bif (((((rd a0.Kids x10_1).Kind) == 1) == true) && ((((rd a0.Kids x10_1).Name.Space) == t12.Space) == false)) then (.bref 6 1) else .v undef)), (35, (bif ((((rd a0.Kids x10_1).Kind) == 1) == true) then (.v (.bool (((rd a0.Kids x10_1).Name.Space) == t12.Space))) else .v undef))] (.agg (e_api_Name ((rd a0.Kids x10_1).Name))), It.I (((((rd a0.Kids x10_1).Kind) == 1) == true) && ((((rd a0.Kids x10_1).Name.Space) == t12.Space) == false)) [(35, (bif ((((rd a0.Kids x10_1).Kind) == 1) == true) then (.v (.bool (((rd a0.Kids x10_1).Name.Space) == t12.Space))) else .v undef))] (.agg (e_api_Name t15)), It.I (((((rd a0.Kids x10_1).Kind) == 1) == true) && ((((rd a0.Kids x10_1).Name.Space) == t12.Space) == false)) [(37, (bif (((((rd a0.Kids x10_1).Kind) == 1) == true) && ((((rd a0.Kids x10_1).Name.Space) == t12.Space) == false)) then (.agg (e_api_Name ((rd a0.Kids x10_1).Name))) else .v undef)), (38, (bif (((((rd a0.Kids x10_1).Kind) == 1) == true) && ((((rd a0.Kids x10_1).Name.Space) == t12.Space) == false)) then (.agg (e_api_Name t15)) else .v undef)), (35, (bif ((((rd a0.Kids x10_1).Kind) == 1) == true) then (.v (.bool (((rd a0.Kids x10_1).Name.Space) == t12.Space))) else .v undef))] (.v (.bool (((rd a0.Kids x10_1).Name).Space == t15.Space && (((rd a0.Kids x10_1).Name).Local == t15.Local && true)))), It.I ((((rd a0.Kids x10_1).Kind) == 1) == true) [(35, (bif ((((rd a0.Kids x10_1).Kind) == 1) == true) then (.v (.bool (((rd a0.Kids x10_1).Name.Space) == t12.Space))) else .v undef)), (39, (bif (((((rd a0.Kids x10_1).Kind) == 1) == true) && ((((rd a0.Kids x10_1).Name.Space) == t12.Space) == false)) then (.v (.bool (((rd a0.Kids x10_1).Name).Space == t15.Space && (((rd a0.Kids x10_1).Name).Local == t15.Local && true)))) else .v undef)), (28, (.v (.bool (((rd a0.Kids x10_1).Kind) == 1))))] (.v (.bool ((((rd a0.Kids x10_1).Name.Space) == t12.Space) || (((rd a0.Kids x10_1).Name).Space == t15.Space && (((rd a0.Kids x10_1).Name).Local == t15.Local && true))))), ⟨true, [(28, (.v (.bool (((rd a0.Kids x10_1).Kind) == 1)))), (40, (bif ((((rd a0.Kids x10_1).Kind) == 1) == true) then (.v (.bool ((((rd a0.Kids x10_1).Name.Space) == t12.Space) || (((rd a0.Kids x10_1).Name).Space == t15.Space && (((rd a0.Kids x10_1).Name).Local == t15.Local && true))))) else .v undef))], (.v (.bool ((((rd a0.Kids x10_1).Kind) == 1) && ((((rd a0.Kids x10_1).Name.Space) == t12.Space) || (((rd a0.Kids x10_1).Name).Space == t15.Space && (((rd a0.Kids x10_1).Name).Local == t15.Local && true))))))⟩, ⟨true, [(41, (.v (.bool ((((rd a0.Kids x10_1).Kind) == 1) && ((((rd a0.Kids x10_1).Name.Space) == t12.Space) || (((rd a0.Kids x10_1).Name).Space == t15.Space && (((rd a0.Kids x10_1).Name).Local == t15.Local && true)))))))], (.v (.bool ((((rd a0.Kids x10_1).Kind) == 1) && ((((rd a0.Kids x10_1).Name.Space) == t12.Space) || (((rd a0.Kids x10_1).Name).Space == t15.Space && (((rd a0.Kids x10_1).Name).Local == t15.Local && true))))))⟩] [[], [0], [1], [2], [3], [3, 4], [3, 5], [3], [3, 7], [3, 6, 8], [3, 9], [10], [10, 11], [10], [10, 12, 13], [3, 10, 14], [3, 15], [16]] mixed (by kernel_rfl) ?_ ?_
        · refine TxtE.cons rfl ⟨.same _, trivial⟩ rfl (VOk.g (VOk.to (VOk.fieldB rfl Try.underlying27 rfl sz3 rfl rfl) rfl)) ?_
          refine TxtE.cons rfl ⟨.same _, trivial⟩ rfl (VOk.g (VOk.loadB (d := (.v (.int .i64 ((rd a0.Kids x10_1).Kind)))) rfl Try.underlying3 rfl rfl rfl rfl)) ?_
          refine TxtE.cons rfl ⟨.same _, trivial⟩ rfl (VOk.g (VOk.arith (op := .eql) (k := .i64) (a := (rd a0.Kids x10_1).Kind) (b := 1) rfl rfl rfl rfl)) ?_
          refine TxtE.cons rfl ⟨.same _, trivial⟩ rfl (VOk.g (VOk.mv (d := (.v (.bool (((rd a0.Kids x10_1).Kind) == 1)))) rfl rfl)) ?_
          refine TxtE.consI rfl ⟨.same _, .same _, trivial⟩ rfl rfl (.one rfl) (fun hw11 => (VOk.g (VOk.to (VOk.fieldB rfl Try.underlying27 rfl sz23 rfl rfl) rfl))) ?_
          refine TxtE.consI rfl ⟨.same _, .same _, trivial⟩ rfl rfl (.one rfl) (fun hw11 => (GOk.fr (fr' := [(29, (.bref 6 1))]) ⟨DLe.of_eq (cT hw11).symm, trivial⟩ (VOk.g (VOk.to (VOk.fieldB rfl Try.underlying23 rfl sz9 rfl rfl) rfl)))) ?_
          refine TxtE.consI rfl ⟨.same _, .same _, trivial⟩ rfl rfl (.one rfl) (fun hw11 => (GOk.fr (fr' := [(30, (.bref 6 1))]) ⟨DLe.of_eq (cT hw11).symm, trivial⟩ (VOk.g (VOk.loadB (d := (S ((rd a0.Kids x10_1).Name.Space))) rfl Try.underlying9 rfl rfl rfl rfl)))) ?_
          refine TxtE.consI rfl ⟨.same _, trivial⟩ rfl rfl (.one rfl) (fun hw11 => (GOk.call rfl rfl cl24 rfl (services_own.ok (ifT h13 hw11)) rfl)) ?_
          refine TxtE.consI rfl ⟨.same _, .same _, trivial⟩ rfl rfl (.one rfl) (fun hw11 => (GOk.fr (fr' := [(32, (.agg (e_api_Name t12)))]) ⟨DLe.of_eq (cT hw11).symm, trivial⟩ (VOk.g (VOk.field (d := (S t12.Space)) rfl Try.underlying23 rfl Try.underlying9 rfl rfl rfl)))) ?_
          refine TxtE.consI rfl ⟨.same _, .same _, .same _, trivial⟩ rfl rfl (.one rfl) (fun hw11 => (GOk.fr (fr' := [(31, (S ((rd a0.Kids x10_1).Name.Space))), (33, (S t12.Space))]) ⟨DLe.of_eq (cT hw11).symm, DLe.of_eq (cT hw11).symm, trivial⟩ (VOk.g (VOk.strOp (op := .eql) (a := (rd a0.Kids x10_1).Name.Space) (b := t12.Space) rfl rfl rfl rfl)))) ?_
          refine TxtE.consI rfl ⟨.same _, .same _, trivial⟩ rfl rfl (.one rfl) (fun hw11 => (GOk.fr (fr' := [(34, (.v (.bool (((rd a0.Kids x10_1).Name.Space) == t12.Space))))]) ⟨DLe.of_eq (cT hw11).symm, trivial⟩ (VOk.g (VOk.mv (d := (.v (.bool (((rd a0.Kids x10_1).Name.Space) == t12.Space)))) rfl rfl)))) ?_
          refine TxtE.consI rfl ⟨.same _, .same _, trivial⟩ rfl rfl (.two rfl) (fun hw14 => (VOk.g (VOk.to (VOk.fieldB rfl Try.underlying27 rfl sz23 rfl rfl) rfl))) ?_
          refine TxtE.consI rfl ⟨.same _, .same _, trivial⟩ rfl rfl (.two rfl) (fun hw14 => (GOk.fr (fr' := [(36, (.bref 6 1))]) ⟨DLe.of_eq (cT hw14).symm, trivial⟩ (VOk.g (VOk.to (d' := (.agg (e_api_Name ((rd a0.Kids x10_1).Name)))) (.loadBAgg rfl Try.underlying23 rfl sz23 rfl rfl rfl) rfl)))) ?_
          refine TxtE.consI rfl ⟨.same _, trivial⟩ rfl rfl (.two rfl) (fun hw14 => (GOk.call rfl rfl cl49 rfl (services_list.ok (ifT h16 hw14)) rfl)) ?_
          refine TxtE.consI rfl ⟨.same _, .same _, .same _, trivial⟩ rfl rfl (.two rfl) (fun hw14 => (GOk.fr (fr' := [(37, (.agg (e_api_Name ((rd a0.Kids x10_1).Name)))), (38, (.agg (e_api_Name t15)))]) ⟨DLe.of_eq (cT hw14).symm, DLe.of_eq (cT hw14).symm, trivial⟩ (VOk.g (VOk.eqS' (op := .eql) (d := (.v (.bool (((rd a0.Kids x10_1).Name).Space == t15.Space && (((rd a0.Kids x10_1).Name).Local == t15.Local && true))))) rfl (.inl rfl) (eqt23 9998) ag23 eg23 rfl rfl rfl rfl)))) ?_
          refine TxtE.consI rfl ⟨.same _, .same _, .same _, trivial⟩ rfl rfl (.one rfl) (fun hw11 => (VOk.g (VOk.to (VOk.pickI (b := (((rd a0.Kids x10_1).Name.Space) == t12.Space)) (p := true) (q := (((rd a0.Kids x10_1).Name).Space == t15.Space && (((rd a0.Kids x10_1).Name).Local == t15.Local && true))) rfl (cT hw11) (fun hp17 => rfl) (fun hp17 => (cT (and_i hw11 (f_beq hp17))))) (pickOr (((rd a0.Kids x10_1).Name.Space) == t12.Space) (((rd a0.Kids x10_1).Name).Space == t15.Space && (((rd a0.Kids x10_1).Name).Local == t15.Local && true)))))) ?_
          refine TxtE.cons rfl ⟨.same _, .same _, trivial⟩ rfl (VOk.g (VOk.to (VOk.pickI (b := (((rd a0.Kids x10_1).Kind) == 1)) (p := ((((rd a0.Kids x10_1).Name.Space) == t12.Space) || (((rd a0.Kids x10_1).Name).Space == t15.Space && (((rd a0.Kids x10_1).Name).Local == t15.Local && true)))) (q := false) rfl rfl (fun hp18 => (cT (t_beq hp18))) (fun hp18 => rfl)) (pickAnd (((rd a0.Kids x10_1).Kind) == 1) ((((rd a0.Kids x10_1).Name.Space) == t12.Space) || (((rd a0.Kids x10_1).Name).Space == t15.Space && (((rd a0.Kids x10_1).Name).Local == t15.Local && true)))))) ?_
          refine TxtE.cons rfl ⟨.same _, trivial⟩ rfl (VOk.g (VOk.asg (d := (.v (.bool ((((rd a0.Kids x10_1).Kind) == 1) && ((((rd a0.Kids x10_1).Name.Space) == t12.Space) || (((rd a0.Kids x10_1).Name).Space == t15.Space && (((rd a0.Kids x10_1).Name).Local == t15.Local && true))))))) rfl rfl)) ?_
          exact .done (.rf rfl rfl)
        refine Ok.test (b := ((((rd a0.Kids x10_1).Kind) == 1) && ((((rd a0.Kids x10_1).Name.Space) == t12.Space) || (((rd a0.Kids x10_1).Name).Space == t15.Space && (((rd a0.Kids x10_1).Name).Local == t15.Local && true))))) rfl (fun hb20 => ?_) (fun hb20 => ?_)
        · replace H := ifT H hb20
          obtain ⟨c19, H⟩ := assertE H
          refine Ok.region (σ' := ⟨[(4, (.sref 4)), (8, (L 6 e_api_Node a0.Kids)), (9, (.v (.int .i64 (a0.Kids.length : Int)))), (10, (.v (.int .i64 x10_1)))], [(4, (.rows true 27 6 ((y4_2 ++ ([(rd a0.Kids x10_1)] : List T_api_Node)).map e_api_Node)))]⟩) ?_ ?_
          · refine .cv (VOk.mv (d := (.sref 4)) rfl rfl) rfl rfl ?_
            refine .cv (VOk.to (d' := (.agg (e_api_Node (rd a0.Kids x10_1)))) (.loadBAgg rfl Try.underlying27 rfl sz27 rfl rfl rfl) (congrArg D.agg (e_api_Node_c (rd a0.Kids x10_1)).symm)) rfl rfl ?_
            refine .cg (GOk.to (d' := (L 6 e_api_Node ([(rd a0.Kids x10_1)] : List T_api_Node))) (GOk.lit rfl Try.underlying25 sz27 zs27 rfl rfl rfl rfl) rfl) rfl rfl ?_
            refine OpsOk.cons rfl (OpOk.appendL (e := e_api_Node) (xs := y4_2) (ys := ([(rd a0.Kids x10_1)] : List T_api_Node)) rfl Try.underlying25 elt27 rfl rfl rfl c19 rfl) ?_
            refine .cv (VOk.asg (d := (.sref 4)) rfl rfl) rfl rfl ?_
            exact .done (.rf rfl rfl)
          refine Ok.region (σ' := ⟨[(4, (.sref 4)), (8, (L 6 e_api_Node a0.Kids)), (9, (.v (.int .i64 (a0.Kids.length : Int)))), (10, (.v (.int .i64 (IntKind.i64.wrap (x10_1 + 1)))))], [(4, (.rows true 27 6 ((y4_2 ++ ([(rd a0.Kids x10_1)] : List T_api_Node)).map e_api_Node)))]⟩) ?_ ?_
          · refine .cv (VOk.arith (op := .add) (k := .i64) (a := x10_1) (b := 1) rfl rfl rfl rfl) rfl rfl ?_
            refine .cv (VOk.mv (d := (.v (.int .i64 (IntKind.i64.wrap (x10_1 + 1))))) rfl rfl) rfl rfl ?_
            exact .done (.rf rfl rfl)
          exact ⟨m5, Nat.lt_succ_self m5, (y4_2 ++ ([(rd a0.Kids x10_1)] : List T_api_Node)), (IntKind.i64.wrap (x10_1 + 1)), rfl, H⟩
        · replace H := ifF H hb20
          refine Ok.skip ?_
          refine Ok.region (σ' := ⟨[(4, (.sref 4)), (8, (L 6 e_api_Node a0.Kids)), (9, (.v (.int .i64 (a0.Kids.length : Int)))), (10, (.v (.int .i64 (IntKind.i64.wrap (x10_1 + 1)))))], [(4, (.rows true 27 6 (y4_2.map e_api_Node)))]⟩) ?_ ?_
          · refine .cv (VOk.arith (op := .add) (k := .i64) (a := x10_1) (b := 1) rfl rfl rfl rfl) rfl rfl ?_
            refine .cv (VOk.mv (d := (.v (.int .i64 (IntKind.i64.wrap (x10_1 + 1))))) rfl rfl) rfl rfl ?_
            exact .done (.rf rfl rfl)
          exact ⟨m5, Nat.lt_succ_self m5, y4_2, (IntKind.i64.wrap (x10_1 + 1)), rfl, H⟩
    · replace H := ifF H hb22
      refine Ok.exit ?_
      refine Ok.seq ?_
      refine Ok.region (σ' := ⟨[(2, (.sref 4)), (3, (.v (.bool true)))], [(4, (.rows true 27 6 (y4_2.map e_api_Node)))]⟩) ?_ ?_
      · refine .cv (VOk.mv (d := (.sref 4)) rfl rfl) rfl rfl ?_
        refine .cv (VOk.asg (d := (.sref 4)) rfl rfl) rfl rfl ?_
        refine .cv (VOk.asg (d := (.v (.bool true))) rfl rfl) rfl rfl ?_
        exact .done (.rf rfl rfl)
      refine Ok.frzL 4 (e := e_api_Node) (xs := y4_2) rfl ?_
      refine Ok.ret ?_
      obtain rfl := Option.some.inj H
      exact ⟨.inl rfl, ⟨_, (.cons (.tmp rfl) (.cons (.tmp rfl) .nil)), rfl⟩, trivial⟩

/-! watchbill/tree.Value: function 70 -/
def tree_Value.l0 (k : Nat) (a0 : T_api_Node) : Nat → Int → Str → Option Str
  | 0, _, _ => none
  | m5 + 1, x14_2, x3_1 => (if (decide (x14_2 < (a0.Kids.length : Int))) = true then (if (0 : Int) ≤ x14_2 ∧ x14_2 < (a0.Kids.length : Int) then (if (((rd a0.Kids x14_2).Kind) == 2) = true then (if x3_1.length + ((rd a0.Kids x14_2).Text).length ≤ 9223372036854775807 then tree_Value.l0 k a0 m5 (IntKind.i64.wrap (x14_2 + 1)) (x3_1 ++ ((rd a0.Kids x14_2).Text)) else none) else tree_Value.l0 k a0 m5 (IntKind.i64.wrap (x14_2 + 1)) x3_1) else none) else some x3_1)
def tree_Value (k : Nat) (a0 : T_api_Node) : Option Str := (if (a0.Kind == 2) = true then some a0.Text else tree_Value.l0 k a0 k 0 ([] : Str))
theorem tree_Value.ok {k : Nat} {a0 : T_api_Node} {r : Str} (H : tree_Value k a0 = some r) : Vx.Fn Try.prog 70 [(.agg (e_api_Node a0))] [] (S r) [] := by
  unfold tree_Value at H
  refine Vx.Fn.of_okR Try.func70 rfl (Nat.le_of_ble_eq_true rfl) ?_
  refine Ok.seq ?_
  refine Ok.region (σ' := ⟨[(1, (.bref 1 0))], [(1, (.box .ex (c_api_Node a0)))]⟩) ?_ ?_
  · refine OpsOk.cut1 0 (.agg [(.v (.int .i64 a0.Kind)), (S a0.Name.Space), (S a0.Name.Local), (L 3 e_api_Attr a0.Attrs), (L 6 e_api_Node a0.Kids), (S a0.Text)]) (DLe.of_eq (congrArg D.agg (e_api_Node_c _).symm)) ?_
    refine OpsOk.cons rfl (OpOk.box 1 (cells := [(.v (.int .i64 a0.Kind)), (S a0.Name.Space), (S a0.Name.Local), (L 3 e_api_Attr a0.Attrs), (L 6 e_api_Node a0.Kids), (S a0.Text)]) rfl rfl rfl rfl) ?_
    refine .cv (VOk.asg (d := (S ([] : Str))) rfl rfl) rfl rfl ?_
    exact .done (.rf rfl rfl)
  refine Ok.seq ?_
  refine Ok.seq ?_
  refine Ok.region (σ' := ⟨[(1, (.bref 1 0)), (8, (.v (.bool (a0.Kind == 2))))], [(1, (.box .ex (c_api_Node a0)))]⟩) ?_ ?_
  · refine .cv (VOk.to (VOk.fieldB rfl Try.underlying27 rfl sz3 rfl rfl) rfl) rfl rfl ?_
    refine .cv (VOk.loadB (d := (.v (.int .i64 a0.Kind))) rfl Try.underlying3 rfl rfl rfl rfl) rfl rfl ?_
    refine .cv (VOk.arith (op := .eql) (k := .i64) (a := a0.Kind) (b := 2) rfl rfl rfl rfl) rfl rfl ?_
    exact .done (.rf rfl rfl)
  refine Ok.test (b := (a0.Kind == 2)) rfl (fun hb10 => ?_) (fun hb10 => ?_)
  · replace H := ifT H hb10
    refine Ok.seq ?_
    refine Ok.region (σ' := ⟨[(2, (S a0.Text))], []⟩) ?_ ?_
    · refine .cv (VOk.to (VOk.fieldB rfl Try.underlying27 rfl sz9 rfl rfl) rfl) rfl rfl ?_
      refine .cv (VOk.loadB (d := (S a0.Text)) rfl Try.underlying9 rfl rfl rfl rfl) rfl rfl ?_
      refine .cv (VOk.asg (d := (S a0.Text)) rfl rfl) rfl rfl ?_
      exact .done (.rf rfl rfl)
    refine Ok.ret ?_
    obtain rfl := Option.some.inj H
    exact ⟨.inl rfl, ⟨_, (.cons (.tmp rfl) .nil), rfl⟩, trivial⟩
  · replace H := ifF H hb10
    refine Ok.skip ?_
    refine Ok.seq ?_
    refine Ok.region (σ' := ⟨[(1, (.bref 1 0)), (3, (S ([] : Str)))], [(1, (.box .ex (c_api_Node a0)))]⟩) ?_ ?_
    · refine .cv (VOk.asg (d := (S ([] : Str))) rfl rfl) rfl rfl ?_
      exact .done (.rf rfl rfl)
    refine Ok.seq ?_
    refine Ok.seq ?_
    refine Ok.region (σ' := ⟨[(3, (S ([] : Str))), (12, (L 6 e_api_Node a0.Kids)), (13, (.v (.int .i64 (a0.Kids.length : Int)))), (14, (.v (.int .i64 0)))], []⟩) ?_ ?_
    · refine .cv (VOk.to (VOk.fieldB rfl Try.underlying27 rfl sz25 rfl rfl) rfl) rfl rfl ?_
      refine .cv (VOk.loadB (d := (L 6 e_api_Node a0.Kids)) rfl Try.underlying25 rfl rfl rfl rfl) rfl rfl ?_
      refine .cv (VOk.lenL (e := e_api_Node) (xs := a0.Kids) rfl Try.underlying25 rfl) rfl rfl ?_
      refine .cv (VOk.mv (d := (.v (.int .i64 0))) rfl rfl) rfl rfl ?_
      exact .done (.rf rfl rfl)
    refine Ok.block ?_
    refine Ok.le (σ' := ⟨[(3, (S ([] : Str))), (12, (L 6 e_api_Node a0.Kids)), (13, (.v (.int .i64 (a0.Kids.length : Int)))), (14, (.v (.int .i64 0)))], []⟩) (.rf rfl rfl) ?_
    refine Ok.loop (fun m5 σ => ∃ (x14_2 : Int) (x3_1 : Str), σ = ⟨[(3, (S x3_1)), (12, (L 6 e_api_Node a0.Kids)), (13, (.v (.int .i64 (a0.Kids.length : Int)))), (14, (.v (.int .i64 x14_2)))], []⟩ ∧ tree_Value.l0 k a0 m5 x14_2 x3_1 = some r) k ⟨0, ([] : Str), rfl, H⟩ ?_
    rintro m5 σ ⟨x14_2, x3_1, rfl, H⟩
    cases m5 with
    | zero => exact absurd H (by simp [tree_Value.l0])
    | succ m5 =>
      unfold tree_Value.l0 at H
      refine Ok.seq ?_
      refine Ok.region (σ' := ⟨[(3, (S x3_1)), (12, (L 6 e_api_Node a0.Kids)), (13, (.v (.int .i64 (a0.Kids.length : Int)))), (14, (.v (.int .i64 x14_2))), (15, (.v (.bool (decide (x14_2 < (a0.Kids.length : Int))))))], []⟩) ?_ ?_
      · refine .cv (VOk.arith (op := .lss) (k := .i64) (a := x14_2) (b := (a0.Kids.length : Int)) rfl rfl rfl rfl) rfl rfl ?_
        exact .done (.rf rfl rfl)
      refine Ok.seq ?_
      refine Ok.test (b := (decide (x14_2 < (a0.Kids.length : Int)))) rfl (fun hb9 => ?_) (fun hb9 => ?_)
      · replace H := ifT H hb9
        refine Ok.skip ?_
        refine Ok.seq ?_
        refine Ok.block ?_
        refine Ok.seq ?_
        obtain ⟨c6, H⟩ := assertE H
        refine Ok.region (σ' := ⟨[(3, (S x3_1)), (5, (.bref 5 0)), (12, (L 6 e_api_Node a0.Kids)), (13, (.v (.int .i64 (a0.Kids.length : Int)))), (14, (.v (.int .i64 x14_2)))], [(5, (.box .ex (c_api_Node (rd a0.Kids x14_2))))]⟩) ?_ ?_
        · refine .cv (VOk.indexL (sz := 6) (e := e_api_Node) (xs := a0.Kids) (i := x14_2) rfl Try.underlying25 sz27 rfl rfl c6) rfl rfl ?_
          refine .cv (VOk.to (d' := (.agg (e_api_Node (rd a0.Kids x14_2)))) (.loadFpAgg rfl Try.underlying27 rfl sz27 rfl rfl) rfl) rfl rfl ?_
          refine OpsOk.cons rfl (OpOk.alloc 5 [none, none, none, some 3, some 6, none] rfl zo27 rfl rfl) ?_
          refine OpsOk.cut1 17 (.agg [(.v (.int .i64 ((rd a0.Kids x14_2).Kind))), (S ((rd a0.Kids x14_2).Name.Space)), (S ((rd a0.Kids x14_2).Name.Local)), (L 3 e_api_Attr ((rd a0.Kids x14_2).Attrs)), (L 6 e_api_Node ((rd a0.Kids x14_2).Kids)), (S ((rd a0.Kids x14_2).Text))]) (DLe.of_eq (congrArg D.agg (e_api_Node_c _).symm)) ?_
          refine OpsOk.cons rfl (OpOk.to (σ2 := St.put ⟨_, (5, (.box .ex (c_api_Node (rd a0.Kids x14_2)))) :: _⟩ _ .junk) (.storeB rfl sz27 rfl rfl rfl rfl rfl rfl) rfl) ?_
          exact .done (.rf rfl rfl)
        refine Ok.seq ?_
        refine Ok.region (σ' := ⟨[(3, (S x3_1)), (5, (.bref 5 0)), (12, (L 6 e_api_Node a0.Kids)), (13, (.v (.int .i64 (a0.Kids.length : Int)))), (14, (.v (.int .i64 x14_2))), (20, (.v (.bool (((rd a0.Kids x14_2).Kind) == 2))))], [(5, (.box .ex (c_api_Node (rd a0.Kids x14_2))))]⟩) ?_ ?_
        · refine .cv (VOk.to (VOk.fieldB rfl Try.underlying27 rfl sz3 rfl rfl) rfl) rfl rfl ?_
          refine .cv (VOk.loadB (d := (.v (.int .i64 ((rd a0.Kids x14_2).Kind)))) rfl Try.underlying3 rfl rfl rfl rfl) rfl rfl ?_
          refine .cv (VOk.arith (op := .eql) (k := .i64) (a := (rd a0.Kids x14_2).Kind) (b := 2) rfl rfl rfl rfl) rfl rfl ?_
          exact .done (.rf rfl rfl)
        refine Ok.test (b := (((rd a0.Kids x14_2).Kind) == 2)) rfl (fun hb8 => ?_) (fun hb8 => ?_)
        · replace H := ifT H hb8
          obtain ⟨c7, H⟩ := assertE H
          refine Ok.region (σ' := ⟨[(3, (S (x3_1 ++ ((rd a0.Kids x14_2).Text)))), (12, (L 6 e_api_Node a0.Kids)), (13, (.v (.int .i64 (a0.Kids.length : Int)))), (14, (.v (.int .i64 x14_2)))], []⟩) ?_ ?_
          · refine .cv (VOk.mv (d := (S x3_1)) rfl rfl) rfl rfl ?_
            refine .cv (VOk.to (VOk.fieldB rfl Try.underlying27 rfl sz9 rfl rfl) rfl) rfl rfl ?_
            refine .cv (VOk.loadB (d := (S ((rd a0.Kids x14_2).Text))) rfl Try.underlying9 rfl rfl rfl rfl) rfl rfl ?_
            refine .cv (VOk.cat (a := x3_1) (b := (rd a0.Kids x14_2).Text) rfl rfl rfl c7) rfl rfl ?_
            refine .cv (VOk.asg (d := (S (x3_1 ++ ((rd a0.Kids x14_2).Text)))) rfl rfl) rfl rfl ?_
            exact .done (.rf rfl rfl)
          refine Ok.region (σ' := ⟨[(3, (S (x3_1 ++ ((rd a0.Kids x14_2).Text)))), (12, (L 6 e_api_Node a0.Kids)), (13, (.v (.int .i64 (a0.Kids.length : Int)))), (14, (.v (.int .i64 (IntKind.i64.wrap (x14_2 + 1)))))], []⟩) ?_ ?_
          · refine .cv (VOk.arith (op := .add) (k := .i64) (a := x14_2) (b := 1) rfl rfl rfl rfl) rfl rfl ?_
            refine .cv (VOk.mv (d := (.v (.int .i64 (IntKind.i64.wrap (x14_2 + 1))))) rfl rfl) rfl rfl ?_
            exact .done (.rf rfl rfl)
          exact ⟨m5, Nat.lt_succ_self m5, (IntKind.i64.wrap (x14_2 + 1)), (x3_1 ++ ((rd a0.Kids x14_2).Text)), rfl, H⟩
        · replace H := ifF H hb8
          refine Ok.skip ?_
          refine Ok.region (σ' := ⟨[(3, (S x3_1)), (12, (L 6 e_api_Node a0.Kids)), (13, (.v (.int .i64 (a0.Kids.length : Int)))), (14, (.v (.int .i64 (IntKind.i64.wrap (x14_2 + 1)))))], []⟩) ?_ ?_
          · refine .cv (VOk.arith (op := .add) (k := .i64) (a := x14_2) (b := 1) rfl rfl rfl rfl) rfl rfl ?_
            refine .cv (VOk.mv (d := (.v (.int .i64 (IntKind.i64.wrap (x14_2 + 1))))) rfl rfl) rfl rfl ?_
            exact .done (.rf rfl rfl)
          exact ⟨m5, Nat.lt_succ_self m5, (IntKind.i64.wrap (x14_2 + 1)), x3_1, rfl, H⟩
      · replace H := ifF H hb9
        refine Ok.exit ?_
        refine Ok.seq ?_
        refine Ok.region (σ' := ⟨[(2, (S x3_1))], []⟩) ?_ ?_
        · refine .cv (VOk.mv (d := (S x3_1)) rfl rfl) rfl rfl ?_
          refine .cv (VOk.asg (d := (S x3_1)) rfl rfl) rfl rfl ?_
          exact .done (.rf rfl rfl)
        refine Ok.ret ?_
        obtain rfl := Option.some.inj H
        exact ⟨.inl rfl, ⟨_, (.cons (.tmp rfl) .nil), rfl⟩, trivial⟩

/-! watchbill/services.said: function 50 -/
def services_said.l0 (k : Nat) (a0 : T_api_Node) : Nat → Int → Str → Str → List T_api_Attr → List T_api_Node → Str → Int → Option (Str × Bool)
  | 0, _, _, _, _, _, _, _ => none
  | m15 + 1, y1_0_2, y1_1_3, y1_2_4, y1_3_5, y1_4_6, y1_5_7, x10_1 => (if (decide (x10_1 < (a0.Kids.length : Int))) = true then (if (0 : Int) ≤ x10_1 ∧ x10_1 < (a0.Kids.length : Int) then (((if ((((rd a0.Kids x10_1).Kind) == 1) == true) = true then services_own ([] : Str) else some default)).bind fun (t18 : T_api_Name) => (if ((((rd a0.Kids x10_1).Kind) == 1) && (((rd a0.Kids x10_1).Name.Space) == t18.Space)) = true then some (([] : Str), false) else services_said.l0 k a0 m15 y1_0_2 y1_1_3 y1_2_4 y1_3_5 y1_4_6 y1_5_7 (IntKind.i64.wrap (x10_1 + 1)))) else none) else ((tree_Value k (T_api_Node.mk y1_0_2 (T_api_Name.mk y1_1_3 y1_2_4) y1_3_5 y1_4_6 y1_5_7)).bind fun (t22 : Str) => ((utf_Trim k t22).bind fun (t24 : Str) => some (t24, (!(t24 == ([] : Str)))))))
def services_said (k : Nat) (a0 : T_api_Node) : Option (Str × Bool) := services_said.l0 k a0 k a0.Kind a0.Name.Space a0.Name.Local a0.Attrs a0.Kids a0.Text 0
theorem services_said.ok {k : Nat} {a0 : T_api_Node} {r : Str × Bool} (H : services_said k a0 = some r) : Vx.Fn Try.prog 50 [(.agg (e_api_Node a0))] [] (.tup [(S r.1), (.v (.bool r.2))]) [] := by
  unfold services_said at H
  refine Vx.Fn.of_okR Try.func50 rfl (Nat.le_of_ble_eq_true rfl) ?_
  refine Ok.seq ?_
  refine Ok.region (σ' := ⟨[(1, (.bref 1 0))], [(1, (.box .ex (c_api_Node a0)))]⟩) ?_ ?_
  · refine OpsOk.cut1 0 (.agg [(.v (.int .i64 a0.Kind)), (S a0.Name.Space), (S a0.Name.Local), (L 3 e_api_Attr a0.Attrs), (L 6 e_api_Node a0.Kids), (S a0.Text)]) (DLe.of_eq (congrArg D.agg (e_api_Node_c _).symm)) ?_
    refine OpsOk.cons rfl (OpOk.box 1 (cells := [(.v (.int .i64 a0.Kind)), (S a0.Name.Space), (S a0.Name.Local), (L 3 e_api_Attr a0.Attrs), (L 6 e_api_Node a0.Kids), (S a0.Text)]) rfl rfl rfl rfl) ?_
    refine .cv (VOk.asg (d := (S ([] : Str))) rfl rfl) rfl rfl ?_
    refine .cv (VOk.asg (d := (.v (.bool false))) rfl rfl) rfl rfl ?_
    exact .done (.rf rfl rfl)
  refine Ok.seq ?_
  refine Ok.seq ?_
  refine Ok.region (σ' := ⟨[(1, (.bref 1 0)), (8, (L 6 e_api_Node a0.Kids)), (9, (.v (.int .i64 (a0.Kids.length : Int)))), (10, (.v (.int .i64 0)))], [(1, (.box .ex (c_api_Node a0)))]⟩) ?_ ?_
  · refine .cv (VOk.to (VOk.fieldB rfl Try.underlying27 rfl sz25 rfl rfl) rfl) rfl rfl ?_
    refine .cv (VOk.loadB (d := (L 6 e_api_Node a0.Kids)) rfl Try.underlying25 rfl rfl rfl rfl) rfl rfl ?_
    refine .cv (VOk.lenL (e := e_api_Node) (xs := a0.Kids) rfl Try.underlying25 rfl) rfl rfl ?_
    refine .cv (VOk.mv (d := (.v (.int .i64 0))) rfl rfl) rfl rfl ?_
    exact .done (.rf rfl rfl)
  refine Ok.block ?_
  refine Ok.le (σ' := ⟨[(1, (.bref 1 0)), (8, (L 6 e_api_Node a0.Kids)), (9, (.v (.int .i64 (a0.Kids.length : Int)))), (10, (.v (.int .i64 0)))], [(1, (.box .ex (c_api_Node a0)))]⟩) (.rf rfl rfl) ?_
  refine Ok.loop (fun m15 σ => ∃ (y1_0_2 : Int) (y1_1_3 : Str) (y1_2_4 : Str) (y1_3_5 : List T_api_Attr) (y1_4_6 : List T_api_Node) (y1_5_7 : Str) (x10_1 : Int), σ = ⟨[(1, (.bref 1 0)), (8, (L 6 e_api_Node a0.Kids)), (9, (.v (.int .i64 (a0.Kids.length : Int)))), (10, (.v (.int .i64 x10_1)))], [(1, (.box .ex [(.v (.int .i64 y1_0_2)), (S y1_1_3), (S y1_2_4), (L 3 e_api_Attr y1_3_5), (L 6 e_api_Node y1_4_6), (S y1_5_7)]))]⟩ ∧ services_said.l0 k a0 m15 y1_0_2 y1_1_3 y1_2_4 y1_3_5 y1_4_6 y1_5_7 x10_1 = some r) k ⟨a0.Kind, a0.Name.Space, a0.Name.Local, a0.Attrs, a0.Kids, a0.Text, 0, rfl, H⟩ ?_
  rintro m15 σ ⟨y1_0_2, y1_1_3, y1_2_4, y1_3_5, y1_4_6, y1_5_7, x10_1, rfl, H⟩
  cases m15 with
  | zero => exact absurd H (by simp [services_said.l0])
  | succ m15 =>
    unfold services_said.l0 at H
    refine Ok.seq ?_
    refine Ok.region (σ' := ⟨[(1, (.bref 1 0)), (8, (L 6 e_api_Node a0.Kids)), (9, (.v (.int .i64 (a0.Kids.length : Int)))), (10, (.v (.int .i64 x10_1))), (11, (.v (.bool (decide (x10_1 < (a0.Kids.length : Int))))))], [(1, (.box .ex [(.v (.int .i64 y1_0_2)), (S y1_1_3), (S y1_2_4), (L 3 e_api_Attr y1_3_5), (L 6 e_api_Node y1_4_6), (S y1_5_7)]))]⟩) ?_ ?_
    · refine .cv (VOk.arith (op := .lss) (k := .i64) (a := x10_1) (b := (a0.Kids.length : Int)) rfl rfl rfl rfl) rfl rfl ?_
      exact .done (.rf rfl rfl)
    refine Ok.seq ?_
    refine Ok.test (b := (decide (x10_1 < (a0.Kids.length : Int)))) rfl (fun hb26 => ?_) (fun hb26 => ?_)
    · replace H := ifT H hb26
      refine Ok.skip ?_
      refine Ok.seq ?_
      refine Ok.block ?_
      refine Ok.seq ?_
      obtain ⟨c16, H⟩ := assertE H
      refine Ok.region (σ' := ⟨[(1, (.bref 1 0)), (5, (.bref 5 0)), (8, (L 6 e_api_Node a0.Kids)), (9, (.v (.int .i64 (a0.Kids.length : Int)))), (10, (.v (.int .i64 x10_1)))], [(1, (.box .ex [(.v (.int .i64 y1_0_2)), (S y1_1_3), (S y1_2_4), (L 3 e_api_Attr y1_3_5), (L 6 e_api_Node y1_4_6), (S y1_5_7)])), (5, (.box .ex (c_api_Node (rd a0.Kids x10_1))))]⟩) ?_ ?_
      · refine .cv (VOk.indexL (sz := 6) (e := e_api_Node) (xs := a0.Kids) (i := x10_1) rfl Try.underlying25 sz27 rfl rfl c16) rfl rfl ?_
        refine .cv (VOk.to (d' := (.agg (e_api_Node (rd a0.Kids x10_1)))) (.loadFpAgg rfl Try.underlying27 rfl sz27 rfl rfl) rfl) rfl rfl ?_
        refine OpsOk.cons rfl (OpOk.alloc 5 [none, none, none, some 3, some 6, none] rfl zo27 rfl rfl) ?_
        refine OpsOk.cut1 13 (.agg [(.v (.int .i64 ((rd a0.Kids x10_1).Kind))), (S ((rd a0.Kids x10_1).Name.Space)), (S ((rd a0.Kids x10_1).Name.Local)), (L 3 e_api_Attr ((rd a0.Kids x10_1).Attrs)), (L 6 e_api_Node ((rd a0.Kids x10_1).Kids)), (S ((rd a0.Kids x10_1).Text))]) (DLe.of_eq (congrArg D.agg (e_api_Node_c _).symm)) ?_
        refine OpsOk.cons rfl (OpOk.to (σ2 := St.put ⟨_, (5, (.box .ex (c_api_Node (rd a0.Kids x10_1)))) :: _⟩ _ .junk) (.storeB rfl sz27 rfl rfl rfl rfl rfl rfl) rfl) ?_
        exact .done (.rf rfl rfl)
      refine Ok.seq ?_
      obtain ⟨t18, h19, H⟩ := bindE H
      refine Ok.drawE (σ' := ⟨[(1, (.bref 1 0)), (8, (L 6 e_api_Node a0.Kids)), (9, (.v (.int .i64 (a0.Kids.length : Int)))), (10, (.v (.int .i64 x10_1))), (24, (.v (.bool ((((rd a0.Kids x10_1).Kind) == 1) && (((rd a0.Kids x10_1).Name.Space) == t18.Space)))))], [(1, (.box .ex [(.v (.int .i64 y1_0_2)), (S y1_1_3), (S y1_2_4), (L 3 e_api_Attr y1_3_5), (L 6 e_api_Node y1_4_6), (S y1_5_7)]))]⟩) [⟨true, [(5, (.bref 5 0))], (.bref 5 0)⟩, ⟨true, [(14, (.bref 5 0))], (.v (.int .i64 ((rd a0.Kids x10_1).Kind)))⟩, ⟨true, [(15, (.v (.int .i64 ((rd a0.Kids x10_1).Kind))))], (.v (.bool (((rd a0.Kids x10_1).Kind) == 1)))⟩, ⟨true, [(16, (.v (.bool (((rd a0.Kids x10_1).Kind) == 1))))], (.v (.bool (((rd a0.Kids x10_1).Kind) == 1)))⟩, It.I ((((rd a0.Kids x10_1).Kind) == 1) == true) [(5, (.bref 5 0)), (17, (.v (.bool (((rd a0.Kids x10_1).Kind) == 1))))] (.bref 5 1), It.I ((((rd a0.Kids x10_1).Kind) == 1) == true) [(18, (bif ((((rd a0.Kids x10_1).Kind) == 1) == true) then (.bref 5 1) else .v undef)), (17, (.v (.bool (((rd a0.Kids x10_1).Kind) == 1))))] (.bref 5 1), It.I ((((rd a0.Kids x10_1).Kind) == 1) == true) [(19, (bif ((((rd a0.Kids x10_1).Kind) == 1) == true) then (.bref 5 1) else .v undef)), (17, (.v (.bool (((rd a0.Kids x10_1).Kind) == 1))))] (S ((rd a0.Kids x10_1).Name.Space)), It.I ((((rd a0.Kids x10_1).Kind) == 1) == true) [(17, (.v (.bool (((rd a0.Kids x10_1).Kind) == 1))))] (.agg (e_api_Name t18)), It.I ((((rd a0.Kids x10_1).Kind) == 1) == true) [(21, (bif ((((rd a0.Kids x10_1).Kind) == 1) == true) then (.agg (e_api_Name t18)) else .v undef)), (17, (.v (.bool (((rd a0.Kids x10_1).Kind) == 1))))] (S t18.Space), It.I ((((rd a0.Kids x10_1).Kind) == 1) == true) [(20, (bif ((((rd a0.Kids x10_1).Kind) == 1) == true) then (S ((rd a0.Kids x10_1).Name.Space)) else .v undef)), (22, (bif ((((rd a0.Kids x10_1).Kind) == 1) == true) then (S t18.Space) else .v undef)), (17, (.v (.bool (((rd a0.Kids x10_1).Kind) == 1))))] (.v (.bool (((rd a0.Kids x10_1).Name.Space) == t18.Space))), ⟨true, [(17, (.v (.bool (((rd a0.Kids x10_1).Kind) == 1)))), (23, (bif ((((rd a0.Kids x10_1).Kind) == 1) == true) then (.v (.bool (((rd a0.Kids x10_1).Name.Space) == t18.Space))) else .v undef))], (.v (.bool ((((rd a0.Kids x10_1).Kind) == 1) && (((rd a0.Kids x10_1).Name.Space) == t18.Space))))⟩] [[], [0], [1], [2], [3], [3, 4], [3, 5], [3], [3, 7], [3, 6, 8], [3, 9]] mixed (by kernel_rfl) ?_ ?_
      · refine TxtE.cons rfl ⟨.same _, trivial⟩ rfl (VOk.g (VOk.to (VOk.fieldB rfl Try.underlying27 rfl sz3 rfl rfl) rfl)) ?_
        refine TxtE.cons rfl ⟨.same _, trivial⟩ rfl (VOk.g (VOk.loadB (d := (.v (.int .i64 ((rd a0.Kids x10_1).Kind)))) rfl Try.underlying3 rfl rfl rfl rfl)) ?_
        refine TxtE.cons rfl ⟨.same _, trivial⟩ rfl (VOk.g (VOk.arith (op := .eql) (k := .i64) (a := (rd a0.Kids x10_1).Kind) (b := 1) rfl rfl rfl rfl)) ?_
        refine TxtE.cons rfl ⟨.same _, trivial⟩ rfl (VOk.g (VOk.mv (d := (.v (.bool (((rd a0.Kids x10_1).Kind) == 1)))) rfl rfl)) ?_
        refine TxtE.consI rfl ⟨.same _, .same _, trivial⟩ rfl rfl (.one rfl) (fun hw17 => (VOk.g (VOk.to (VOk.fieldB rfl Try.underlying27 rfl sz23 rfl rfl) rfl))) ?_
        refine TxtE.consI rfl ⟨.same _, .same _, trivial⟩ rfl rfl (.one rfl) (fun hw17 => (GOk.fr (fr' := [(18, (.bref 5 1))]) ⟨DLe.of_eq (cT hw17).symm, trivial⟩ (VOk.g (VOk.to (VOk.fieldB rfl Try.underlying23 rfl sz9 rfl rfl) rfl)))) ?_
        refine TxtE.consI rfl ⟨.same _, .same _, trivial⟩ rfl rfl (.one rfl) (fun hw17 => (GOk.fr (fr' := [(19, (.bref 5 1))]) ⟨DLe.of_eq (cT hw17).symm, trivial⟩ (VOk.g (VOk.loadB (d := (S ((rd a0.Kids x10_1).Name.Space))) rfl Try.underlying9 rfl rfl rfl rfl)))) ?_
        refine TxtE.consI rfl ⟨.same _, trivial⟩ rfl rfl (.one rfl) (fun hw17 => (GOk.call rfl rfl cl24 rfl (services_own.ok (ifT h19 hw17)) rfl)) ?_
        refine TxtE.consI rfl ⟨.same _, .same _, trivial⟩ rfl rfl (.one rfl) (fun hw17 => (GOk.fr (fr' := [(21, (.agg (e_api_Name t18)))]) ⟨DLe.of_eq (cT hw17).symm, trivial⟩ (VOk.g (VOk.field (d := (S t18.Space)) rfl Try.underlying23 rfl Try.underlying9 rfl rfl rfl)))) ?_
        refine TxtE.consI rfl ⟨.same _, .same _, .same _, trivial⟩ rfl rfl (.one rfl) (fun hw17 => (GOk.fr (fr' := [(20, (S ((rd a0.Kids x10_1).Name.Space))), (22, (S t18.Space))]) ⟨DLe.of_eq (cT hw17).symm, DLe.of_eq (cT hw17).symm, trivial⟩ (VOk.g (VOk.strOp (op := .eql) (a := (rd a0.Kids x10_1).Name.Space) (b := t18.Space) rfl rfl rfl rfl)))) ?_
        refine TxtE.cons rfl ⟨.same _, .same _, trivial⟩ rfl (VOk.g (VOk.to (VOk.pickI (b := (((rd a0.Kids x10_1).Kind) == 1)) (p := (((rd a0.Kids x10_1).Name.Space) == t18.Space)) (q := false) rfl rfl (fun hp20 => (cT (t_beq hp20))) (fun hp20 => rfl)) (pickAnd (((rd a0.Kids x10_1).Kind) == 1) (((rd a0.Kids x10_1).Name.Space) == t18.Space)))) ?_
        exact .done (.rf rfl rfl)
      refine Ok.test (b := ((((rd a0.Kids x10_1).Kind) == 1) && (((rd a0.Kids x10_1).Name.Space) == t18.Space))) rfl (fun hb21 => ?_) (fun hb21 => ?_)
      · replace H := ifT H hb21
        refine Ok.seq ?_
        refine Ok.region (σ' := ⟨[(2, (S ([] : Str))), (3, (.v (.bool false)))], []⟩) ?_ ?_
        · refine .cv (VOk.asg (d := (S ([] : Str))) rfl rfl) rfl rfl ?_
          refine .cv (VOk.asg (d := (.v (.bool false))) rfl rfl) rfl rfl ?_
          exact .done (.rf rfl rfl)
        refine Ok.ret ?_
        obtain rfl := Option.some.inj H
        exact ⟨.inl rfl, ⟨_, (.cons (.tmp rfl) (.cons (.tmp rfl) .nil)), rfl⟩, trivial⟩
      · replace H := ifF H hb21
        refine Ok.skip ?_
        refine Ok.region (σ' := ⟨[(1, (.bref 1 0)), (8, (L 6 e_api_Node a0.Kids)), (9, (.v (.int .i64 (a0.Kids.length : Int)))), (10, (.v (.int .i64 (IntKind.i64.wrap (x10_1 + 1)))))], [(1, (.box .ex [(.v (.int .i64 y1_0_2)), (S y1_1_3), (S y1_2_4), (L 3 e_api_Attr y1_3_5), (L 6 e_api_Node y1_4_6), (S y1_5_7)]))]⟩) ?_ ?_
        · refine .cv (VOk.arith (op := .add) (k := .i64) (a := x10_1) (b := 1) rfl rfl rfl rfl) rfl rfl ?_
          refine .cv (VOk.mv (d := (.v (.int .i64 (IntKind.i64.wrap (x10_1 + 1))))) rfl rfl) rfl rfl ?_
          exact .done (.rf rfl rfl)
        exact ⟨m15, Nat.lt_succ_self m15, y1_0_2, y1_1_3, y1_2_4, y1_3_5, y1_4_6, y1_5_7, (IntKind.i64.wrap (x10_1 + 1)), rfl, H⟩
    · replace H := ifF H hb26
      refine Ok.exit ?_
      refine Ok.seq ?_
      obtain ⟨t22, h23, H⟩ := bindE H
      obtain ⟨t24, h25, H⟩ := bindE H
      refine Ok.region (σ' := ⟨[(6, (S t24))], []⟩) ?_ ?_
      · refine .cv (VOk.to (d' := (.agg (e_api_Node (T_api_Node.mk y1_0_2 (T_api_Name.mk y1_1_3 y1_2_4) y1_3_5 y1_4_6 y1_5_7)))) (.loadBAgg rfl Try.underlying27 rfl sz27 rfl rfl rfl) (congrArg D.agg (e_api_Node_c (T_api_Node.mk y1_0_2 (T_api_Name.mk y1_1_3 y1_2_4) y1_3_5 y1_4_6 y1_5_7)).symm)) rfl rfl ?_
        refine .cg (GOk.call rfl rfl cl70 rfl (tree_Value.ok h23) rfl) rfl rfl ?_
        refine .cg (GOk.call rfl rfl cl25 rfl (utf_Trim.ok h25) rfl) rfl rfl ?_
        refine .cv (VOk.asg (d := (S t24)) rfl rfl) rfl rfl ?_
        exact .done (.rf rfl rfl)
      refine Ok.seq ?_
      refine Ok.region (σ' := ⟨[(2, (S t24)), (3, (.v (.bool (!(t24 == ([] : Str))))))], []⟩) ?_ ?_
      · refine .cv (VOk.mv (d := (S t24)) rfl rfl) rfl rfl ?_
        refine .cv (VOk.mv (d := (S t24)) rfl rfl) rfl rfl ?_
        refine .cv (VOk.strOp (op := .neq) (a := t24) (b := ([] : Str)) rfl rfl rfl rfl) rfl rfl ?_
        refine .cv (VOk.asg (d := (S t24)) rfl rfl) rfl rfl ?_
        refine .cv (VOk.asg (d := (.v (.bool (!(t24 == ([] : Str)))))) rfl rfl) rfl rfl ?_
        exact .done (.rf rfl rfl)
      refine Ok.ret ?_
      obtain rfl := Option.some.inj H
      exact ⟨.inl rfl, ⟨_, (.cons (.tmp rfl) (.cons (.tmp rfl) .nil)), rfl⟩, trivial⟩

/-! watchbill/lists.kids: function 79 -/
def lists_kids.l0 (k : Nat) (a0 : T_api_Node) : Nat → List T_api_Node → Int → Option ((List T_api_Node) × Bool)
  | 0, _, _ => none
  | m5 + 1, y4_2, x10_1 => (if (decide (x10_1 < (a0.Kids.length : Int))) = true then (if (0 : Int) ≤ x10_1 ∧ x10_1 < (a0.Kids.length : Int) then (((if ((((rd a0.Kids x10_1).Kind) == 2) == true) = true then utf_Trim k ((rd a0.Kids x10_1).Text) else some default)).bind fun (t8 : Str) => (if ((((rd a0.Kids x10_1).Kind) == 2) && (!(t8 == ([] : Str)))) = true then some (([] : List T_api_Node), false) else (((if ((((rd a0.Kids x10_1).Kind) == 1) == true) = true then lists_own ([] : Str) else some default)).bind fun (t12 : T_api_Name) => (if ((((rd a0.Kids x10_1).Kind) == 1) && (((rd a0.Kids x10_1).Name.Space) == t12.Space)) = true then (if (y4_2.length + ([(rd a0.Kids x10_1)] : List T_api_Node).length) * 104 ≤ 140737488355328 then lists_kids.l0 k a0 m5 (y4_2 ++ ([(rd a0.Kids x10_1)] : List T_api_Node)) (IntKind.i64.wrap (x10_1 + 1)) else none) else lists_kids.l0 k a0 m5 y4_2 (IntKind.i64.wrap (x10_1 + 1)))))) else none) else some (y4_2, true))
def lists_kids (k : Nat) (a0 : T_api_Node) : Option ((List T_api_Node) × Bool) := lists_kids.l0 k a0 k ([] : List T_api_Node) 0
theorem lists_kids.ok {k : Nat} {a0 : T_api_Node} {r : (List T_api_Node) × Bool} (H : lists_kids k a0 = some r) : Vx.Fn Try.prog 79 [(.agg (e_api_Node a0))] [] (.tup [(L 6 e_api_Node r.1), (.v (.bool r.2))]) [] := by
  unfold lists_kids at H
  refine Vx.Fn.of_okR Try.func79 rfl (Nat.le_of_ble_eq_true rfl) ?_
  refine Ok.seq ?_
  refine Ok.region (σ' := ⟨[(1, (.bref 1 0))], [(1, (.box .ex (c_api_Node a0)))]⟩) ?_ ?_
  · refine OpsOk.cut1 0 (.agg [(.v (.int .i64 a0.Kind)), (S a0.Name.Space), (S a0.Name.Local), (L 3 e_api_Attr a0.Attrs), (L 6 e_api_Node a0.Kids), (S a0.Text)]) (DLe.of_eq (congrArg D.agg (e_api_Node_c _).symm)) ?_
    refine OpsOk.cons rfl (OpOk.box 1 (cells := [(.v (.int .i64 a0.Kind)), (S a0.Name.Space), (S a0.Name.Local), (L 3 e_api_Attr a0.Attrs), (L 6 e_api_Node a0.Kids), (S a0.Text)]) rfl rfl rfl rfl) ?_
    refine .cv (VOk.asg (d := (.v (.slice none 0 0))) rfl rfl) rfl rfl ?_
    refine .cv (VOk.asg (d := (.v (.bool false))) rfl rfl) rfl rfl ?_
    exact .done (.rf rfl rfl)
  refine Ok.seq ?_
  refine Ok.region (σ' := ⟨[(1, (.bref 1 0)), (4, (.sref 4))], [(1, (.box .ex (c_api_Node a0))), (4, (.rows true 27 6 (([] : List T_api_Node).map e_api_Node)))]⟩) ?_ ?_
  · refine OpsOk.cons rfl (.nilT 4 27 6 (.inl rfl) rfl rfl) ?_
    exact .done (.rf rfl rfl)
  refine Ok.seq ?_
  refine Ok.seq ?_
  refine Ok.region (σ' := ⟨[(4, (.sref 4)), (8, (L 6 e_api_Node a0.Kids)), (9, (.v (.int .i64 (a0.Kids.length : Int)))), (10, (.v (.int .i64 0)))], [(4, (.rows true 27 6 (([] : List T_api_Node).map e_api_Node)))]⟩) ?_ ?_
  · refine .cv (VOk.to (VOk.fieldB rfl Try.underlying27 rfl sz25 rfl rfl) rfl) rfl rfl ?_
    refine .cv (VOk.loadB (d := (L 6 e_api_Node a0.Kids)) rfl Try.underlying25 rfl rfl rfl rfl) rfl rfl ?_
    refine .cv (VOk.lenL (e := e_api_Node) (xs := a0.Kids) rfl Try.underlying25 rfl) rfl rfl ?_
    refine .cv (VOk.mv (d := (.v (.int .i64 0))) rfl rfl) rfl rfl ?_
    exact .done (.rf rfl rfl)
  refine Ok.block ?_
  refine Ok.le (σ' := ⟨[(4, (.sref 4)), (8, (L 6 e_api_Node a0.Kids)), (9, (.v (.int .i64 (a0.Kids.length : Int)))), (10, (.v (.int .i64 0)))], [(4, (.rows true 27 6 (([] : List T_api_Node).map e_api_Node)))]⟩) (.rf rfl rfl) ?_
  refine Ok.loop (fun m5 σ => ∃ (y4_2 : List T_api_Node) (x10_1 : Int), σ = ⟨[(4, (.sref 4)), (8, (L 6 e_api_Node a0.Kids)), (9, (.v (.int .i64 (a0.Kids.length : Int)))), (10, (.v (.int .i64 x10_1)))], [(4, (.rows true 27 6 (y4_2.map e_api_Node)))]⟩ ∧ lists_kids.l0 k a0 m5 y4_2 x10_1 = some r) k ⟨([] : List T_api_Node), 0, rfl, H⟩ ?_
  rintro m5 σ ⟨y4_2, x10_1, rfl, H⟩
  cases m5 with
  | zero => exact absurd H (by simp [lists_kids.l0])
  | succ m5 =>
    unfold lists_kids.l0 at H
    refine Ok.seq ?_
    refine Ok.region (σ' := ⟨[(4, (.sref 4)), (8, (L 6 e_api_Node a0.Kids)), (9, (.v (.int .i64 (a0.Kids.length : Int)))), (10, (.v (.int .i64 x10_1))), (11, (.v (.bool (decide (x10_1 < (a0.Kids.length : Int))))))], [(4, (.rows true 27 6 (y4_2.map e_api_Node)))]⟩) ?_ ?_
    · refine .cv (VOk.arith (op := .lss) (k := .i64) (a := x10_1) (b := (a0.Kids.length : Int)) rfl rfl rfl rfl) rfl rfl ?_
      exact .done (.rf rfl rfl)
    refine Ok.seq ?_
    refine Ok.test (b := (decide (x10_1 < (a0.Kids.length : Int)))) rfl (fun hb18 => ?_) (fun hb18 => ?_)
    · replace H := ifT H hb18
      refine Ok.skip ?_
      refine Ok.seq ?_
      refine Ok.block ?_
      refine Ok.seq ?_
      obtain ⟨c6, H⟩ := assertE H
      refine Ok.region (σ' := ⟨[(4, (.sref 4)), (6, (.bref 6 0)), (8, (L 6 e_api_Node a0.Kids)), (9, (.v (.int .i64 (a0.Kids.length : Int)))), (10, (.v (.int .i64 x10_1)))], [(4, (.rows true 27 6 (y4_2.map e_api_Node))), (6, (.box .ex (c_api_Node (rd a0.Kids x10_1))))]⟩) ?_ ?_
      · refine .cv (VOk.indexL (sz := 6) (e := e_api_Node) (xs := a0.Kids) (i := x10_1) rfl Try.underlying25 sz27 rfl rfl c6) rfl rfl ?_
        refine .cv (VOk.to (d' := (.agg (e_api_Node (rd a0.Kids x10_1)))) (.loadFpAgg rfl Try.underlying27 rfl sz27 rfl rfl) rfl) rfl rfl ?_
        refine OpsOk.cons rfl (OpOk.alloc 6 [none, none, none, some 3, some 6, none] rfl zo27 rfl rfl) ?_
        refine OpsOk.cut1 13 (.agg [(.v (.int .i64 ((rd a0.Kids x10_1).Kind))), (S ((rd a0.Kids x10_1).Name.Space)), (S ((rd a0.Kids x10_1).Name.Local)), (L 3 e_api_Attr ((rd a0.Kids x10_1).Attrs)), (L 6 e_api_Node ((rd a0.Kids x10_1).Kids)), (S ((rd a0.Kids x10_1).Text))]) (DLe.of_eq (congrArg D.agg (e_api_Node_c _).symm)) ?_
        refine OpsOk.cons rfl (OpOk.to (σ2 := St.put ⟨_, (6, (.box .ex (c_api_Node (rd a0.Kids x10_1)))) :: _⟩ _ .junk) (.storeB rfl sz27 rfl rfl rfl rfl rfl rfl) rfl) ?_
        exact .done (.rf rfl rfl)
      refine Ok.block ?_
      refine Ok.seq ?_
      obtain ⟨t8, h9, H⟩ := bindE H
      refine Ok.region (σ' := ⟨[(4, (.sref 4)), (6, (.bref 6 0)), (8, (L 6 e_api_Node a0.Kids)), (9, (.v (.int .i64 (a0.Kids.length : Int)))), (10, (.v (.int .i64 x10_1))), (14, (.v (.bool ((((rd a0.Kids x10_1).Kind) == 2) && (!(t8 == ([] : Str)))))))], [(4, (.rows true 27 6 (y4_2.map e_api_Node))), (6, (.box .ex (c_api_Node (rd a0.Kids x10_1))))]⟩) ?_ ?_
      · refine .cv (VOk.to (VOk.fieldB rfl Try.underlying27 rfl sz3 rfl rfl) rfl) rfl rfl ?_
        refine .cv (VOk.loadB (d := (.v (.int .i64 ((rd a0.Kids x10_1).Kind)))) rfl Try.underlying3 rfl rfl rfl rfl) rfl rfl ?_
        refine .cv (VOk.arith (op := .eql) (k := .i64) (a := (rd a0.Kids x10_1).Kind) (b := 2) rfl rfl rfl rfl) rfl rfl ?_
        refine .cv (VOk.mv (d := (.v (.bool (((rd a0.Kids x10_1).Kind) == 2)))) rfl rfl) rfl rfl ?_
        refine OpsOk.consI rfl rfl rfl (.one rfl) rfl (fun hw7 => (VOk.g (VOk.to (VOk.fieldB rfl Try.underlying27 rfl sz9 rfl rfl) rfl))) ?_
        refine OpsOk.consI rfl rfl rfl (.one rfl) rfl (fun hw7 => (GOk.fr (fr' := [(19, (.bref 6 5))]) ⟨DLe.of_eq (cT hw7).symm, trivial⟩ (VOk.g (VOk.loadB (d := (S ((rd a0.Kids x10_1).Text))) rfl Try.underlying9 rfl rfl rfl rfl)))) ?_
        refine OpsOk.consI rfl rfl rfl (.one rfl) rfl (fun hw7 => (GOk.fr (fr' := [(20, (S ((rd a0.Kids x10_1).Text)))]) ⟨DLe.of_eq (cT hw7).symm, trivial⟩ (GOk.call rfl rfl cl25 rfl (utf_Trim.ok (ifT h9 hw7)) rfl))) ?_
        refine OpsOk.consI rfl rfl rfl (.one rfl) rfl (fun hw7 => (GOk.fr (fr' := [(21, (S t8))]) ⟨DLe.of_eq (cT hw7).symm, trivial⟩ (VOk.g (VOk.strOp (op := .neq) (a := t8) (b := ([] : Str)) rfl rfl rfl rfl)))) ?_
        refine .cv (VOk.to (VOk.pickI (b := (((rd a0.Kids x10_1).Kind) == 2)) (p := (!(t8 == ([] : Str)))) (q := false) rfl rfl (fun hp10 => (cT (t_beq hp10))) (fun hp10 => rfl)) (pickAnd (((rd a0.Kids x10_1).Kind) == 2) (!(t8 == ([] : Str))))) rfl rfl ?_
        refine .cv (VOk.asg (d := (.v (.bool ((((rd a0.Kids x10_1).Kind) == 2) && (!(t8 == ([] : Str))))))) rfl rfl) rfl rfl ?_
        exact .done (.rf rfl rfl)
      refine Ok.test (b := ((((rd a0.Kids x10_1).Kind) == 2) && (!(t8 == ([] : Str))))) rfl (fun hb17 => ?_) (fun hb17 => ?_)
      · replace H := ifT H hb17
        refine Ok.seq ?_
        refine Ok.region (σ' := ⟨[(2, (.v (.slice none 0 0))), (3, (.v (.bool false)))], []⟩) ?_ ?_
        · refine .cv (VOk.asg (d := (.v (.slice none 0 0))) rfl rfl) rfl rfl ?_
          refine .cv (VOk.asg (d := (.v (.bool false))) rfl rfl) rfl rfl ?_
          exact .done (.rf rfl rfl)
        refine Ok.le (σ' := ⟨[(2, (L 6 e_api_Node ([] : List T_api_Node))), (3, (.v (.bool false)))], []⟩) (.mk ⟨.nil _, .same _, trivial⟩ trivial) ?_
        refine Ok.ret ?_
        obtain rfl := Option.some.inj H
        exact ⟨.inl rfl, ⟨_, (.cons (.tmp rfl) (.cons (.tmp rfl) .nil)), rfl⟩, trivial⟩
      · replace H := ifF H hb17
        refine Ok.seq ?_
        obtain ⟨t12, h13, H⟩ := bindE H
        refine Ok.drawE (σ' := ⟨[(4, (.sref 4)), (6, (.bref 6 0)), (8, (L 6 e_api_Node a0.Kids)), (9, (.v (.int .i64 (a0.Kids.length : Int)))), (10, (.v (.int .i64 x10_1))), (24, (.v (.bool ((((rd a0.Kids x10_1).Kind) == 1) && (((rd a0.Kids x10_1).Name.Space) == t12.Space)))))], [(4, (.rows true 27 6 (y4_2.map e_api_Node))), (6, (.box .ex (c_api_Node (rd a0.Kids x10_1))))]⟩) [⟨true, [(6, (.bref 6 0))], (.bref 6 0)⟩, ⟨true, [(25, (.bref 6 0))], (.v (.int .i64 ((rd a0.Kids x10_1).Kind)))⟩, ⟨true, [(26, (.v (.int .i64 ((rd a0.Kids x10_1).Kind))))], (.v (.bool (((rd a0.Kids x10_1).Kind) == 1)))⟩, ⟨true, [(27, (.v (.bool (((rd a0.Kids x10_1).Kind) == 1))))], (.v (.bool (((rd a0.Kids x10_1).Kind) == 1)))⟩, It.I ((((rd a0.Kids x10_1).Kind) == 1) == true) [(6, (.bref 6 0)), (28, (.v (.bool (((rd a0.Kids x10_1).Kind) == 1))))] (.bref 6 1), It.I ((((rd a0.Kids x10_1).Kind) == 1) == true) [(29, (bif ((((rd a0.Kids x10_1).Kind) == 1) == true) then (.bref 6 1) else .v undef)), (28, (.v (.bool (((rd a0.Kids x10_1).Kind) == 1))))] (.bref 6 1), It.I ((((rd a0.Kids x10_1).Kind) == 1) == true) [(30, (bif ((((rd a0.Kids x10_1).Kind) == 1) == true) then (.bref 6 1) else .v undef)), (28, (.v (.bool (((rd a0.Kids x10_1).Kind) == 1))))] (S ((rd a0.Kids x10_1).Name.Space)), It.I ((((rd a0.Kids x10_1).Kind) == 1) == true) [(28, (.v (.bool (((rd a0.Kids x10_1).Kind) == 1))))] (.agg (e_api_Name t12)), It.I ((((rd a0.Kids x10_1).Kind) == 1) == true) [(32, (bif ((((rd a0.Kids x10_1).Kind) == 1) == true) then (.agg (e_api_Name t12)) else .v undef)), (28, (.v (.bool (((rd a0.Kids x10_1).Kind) == 1))))] (S t12.Space), It.I ((((rd a0.Kids x10_1).Kind) == 1) == true) [(31, (bif ((((rd a0.Kids x10_1).Kind) == 1) == true) then (S ((rd a0.Kids x10_1).Name.Space)) else .v undef)), (33, (bif ((((rd a0.Kids x10_1).Kind) == 1) == true) then (S t12.Space) else .v undef)), (28, (.v (.bool (((rd a0.Kids x10_1).Kind) == 1))))] (.v (.bool (((rd a0.Kids x10_1).Name.Space) == t12.Space))), ⟨true, [(28, (.v (.bool (((rd a0.Kids x10_1).Kind) == 1)))), (34, (bif ((((rd a0.Kids x10_1).Kind) == 1) == true) then (.v (.bool (((rd a0.Kids x10_1).Name.Space) == t12.Space))) else .v undef))], (.v (.bool ((((rd a0.Kids x10_1).Kind) == 1) && (((rd a0.Kids x10_1).Name.Space) == t12.Space))))⟩, ⟨true, [(35, (.v (.bool ((((rd a0.Kids x10_1).Kind) == 1) && (((rd a0.Kids x10_1).Name.Space) == t12.Space)))))], (.v (.bool ((((rd a0.Kids x10_1).Kind) == 1) && (((rd a0.Kids x10_1).Name.Space) == t12.Space))))⟩] [[], [0], [1], [2], [3], [3, 4], [3, 5], [3], [3, 7], [3, 6, 8], [3, 9], [10]] mixed (by kernel_rfl) ?_ ?_
        · refine TxtE.cons rfl ⟨.same _, trivial⟩ rfl (VOk.g (VOk.to (VOk.fieldB rfl Try.underlying27 rfl sz3 rfl rfl) rfl)) ?_
          refine TxtE.cons rfl ⟨.same _, trivial⟩ rfl (VOk.g (VOk.loadB (d := (.v (.int .i64 ((rd a0.Kids x10_1).Kind)))) rfl Try.underlying3 rfl rfl rfl rfl)) ?_
          refine TxtE.cons rfl ⟨.same _, trivial⟩ rfl (VOk.g (VOk.arith (op := .eql) (k := .i64) (a := (rd a0.Kids x10_1).Kind) (b := 1) rfl rfl rfl rfl)) ?_
          refine TxtE.cons rfl ⟨.same _, trivial⟩ rfl (VOk.g (VOk.mv (d := (.v (.bool (((rd a0.Kids x10_1).Kind) == 1)))) rfl rfl)) ?_
          refine TxtE.consI rfl ⟨.same _, .same _, trivial⟩ rfl rfl (.one rfl) (fun hw11 => (VOk.g (VOk.to (VOk.fieldB rfl Try.underlying27 rfl sz23 rfl rfl) rfl))) ?_
          refine TxtE.consI rfl ⟨.same _, .same _, trivial⟩ rfl rfl (.one rfl) (fun hw11 => (GOk.fr (fr' := [(29, (.bref 6 1))]) ⟨DLe.of_eq (cT hw11).symm, trivial⟩ (VOk.g (VOk.to (VOk.fieldB rfl Try.underlying23 rfl sz9 rfl rfl) rfl)))) ?_
          refine TxtE.consI rfl ⟨.same _, .same _, trivial⟩ rfl rfl (.one rfl) (fun hw11 => (GOk.fr (fr' := [(30, (.bref 6 1))]) ⟨DLe.of_eq (cT hw11).symm, trivial⟩ (VOk.g (VOk.loadB (d := (S ((rd a0.Kids x10_1).Name.Space))) rfl Try.underlying9 rfl rfl rfl rfl)))) ?_
          refine TxtE.consI rfl ⟨.same _, trivial⟩ rfl rfl (.one rfl) (fun hw11 => (GOk.call rfl rfl cl84 rfl (lists_own.ok (ifT h13 hw11)) rfl)) ?_
          refine TxtE.consI rfl ⟨.same _, .same _, trivial⟩ rfl rfl (.one rfl) (fun hw11 => (GOk.fr (fr' := [(32, (.agg (e_api_Name t12)))]) ⟨DLe.of_eq (cT hw11).symm, trivial⟩ (VOk.g (VOk.field (d := (S t12.Space)) rfl Try.underlying23 rfl Try.underlying9 rfl rfl rfl)))) ?_
          refine TxtE.consI rfl ⟨.same _, .same _, .same _, trivial⟩ rfl rfl (.one rfl) (fun hw11 => (GOk.fr (fr' := [(31, (S ((rd a0.Kids x10_1).Name.Space))), (33, (S t12.Space))]) ⟨DLe.of_eq (cT hw11).symm, DLe.of_eq (cT hw11).symm, trivial⟩ (VOk.g (VOk.strOp (op := .eql) (a := (rd a0.Kids x10_1).Name.Space) (b := t12.Space) rfl rfl rfl rfl)))) ?_
          refine TxtE.cons rfl ⟨.same _, .same _, trivial⟩ rfl (VOk.g (VOk.to (VOk.pickI (b := (((rd a0.Kids x10_1).Kind) == 1)) (p := (((rd a0.Kids x10_1).Name.Space) == t12.Space)) (q := false) rfl rfl (fun hp14 => (cT (t_beq hp14))) (fun hp14 => rfl)) (pickAnd (((rd a0.Kids x10_1).Kind) == 1) (((rd a0.Kids x10_1).Name.Space) == t12.Space)))) ?_
          refine TxtE.cons rfl ⟨.same _, trivial⟩ rfl (VOk.g (VOk.asg (d := (.v (.bool ((((rd a0.Kids x10_1).Kind) == 1) && (((rd a0.Kids x10_1).Name.Space) == t12.Space))))) rfl rfl)) ?_
          exact .done (.rf rfl rfl)
        refine Ok.test (b := ((((rd a0.Kids x10_1).Kind) == 1) && (((rd a0.Kids x10_1).Name.Space) == t12.Space))) rfl (fun hb16 => ?_) (fun hb16 => ?_)
        · replace H := ifT H hb16
          obtain ⟨c15, H⟩ := assertE H
          refine Ok.region (σ' := ⟨[(4, (.sref 4)), (8, (L 6 e_api_Node a0.Kids)), (9, (.v (.int .i64 (a0.Kids.length : Int)))), (10, (.v (.int .i64 x10_1)))], [(4, (.rows true 27 6 ((y4_2 ++ ([(rd a0.Kids x10_1)] : List T_api_Node)).map e_api_Node)))]⟩) ?_ ?_
          · refine .cv (VOk.mv (d := (.sref 4)) rfl rfl) rfl rfl ?_
            refine .cv (VOk.to (d' := (.agg (e_api_Node (rd a0.Kids x10_1)))) (.loadBAgg rfl Try.underlying27 rfl sz27 rfl rfl rfl) (congrArg D.agg (e_api_Node_c (rd a0.Kids x10_1)).symm)) rfl rfl ?_
            refine .cg (GOk.to (d' := (L 6 e_api_Node ([(rd a0.Kids x10_1)] : List T_api_Node))) (GOk.lit rfl Try.underlying25 sz27 zs27 rfl rfl rfl rfl) rfl) rfl rfl ?_
            refine OpsOk.cons rfl (OpOk.appendL (e := e_api_Node) (xs := y4_2) (ys := ([(rd a0.Kids x10_1)] : List T_api_Node)) rfl Try.underlying25 elt27 rfl rfl rfl c15 rfl) ?_
            refine .cv (VOk.asg (d := (.sref 4)) rfl rfl) rfl rfl ?_
            exact .done (.rf rfl rfl)
          refine Ok.region (σ' := ⟨[(4, (.sref 4)), (8, (L 6 e_api_Node a0.Kids)), (9, (.v (.int .i64 (a0.Kids.length : Int)))), (10, (.v (.int .i64 (IntKind.i64.wrap (x10_1 + 1)))))], [(4, (.rows true 27 6 ((y4_2 ++ ([(rd a0.Kids x10_1)] : List T_api_Node)).map e_api_Node)))]⟩) ?_ ?_
          · refine .cv (VOk.arith (op := .add) (k := .i64) (a := x10_1) (b := 1) rfl rfl rfl rfl) rfl rfl ?_
            refine .cv (VOk.mv (d := (.v (.int .i64 (IntKind.i64.wrap (x10_1 + 1))))) rfl rfl) rfl rfl ?_
            exact .done (.rf rfl rfl)
          exact ⟨m5, Nat.lt_succ_self m5, (y4_2 ++ ([(rd a0.Kids x10_1)] : List T_api_Node)), (IntKind.i64.wrap (x10_1 + 1)), rfl, H⟩
        · replace H := ifF H hb16
          refine Ok.skip ?_
          refine Ok.region (σ' := ⟨[(4, (.sref 4)), (8, (L 6 e_api_Node a0.Kids)), (9, (.v (.int .i64 (a0.Kids.length : Int)))), (10, (.v (.int .i64 (IntKind.i64.wrap (x10_1 + 1)))))], [(4, (.rows true 27 6 (y4_2.map e_api_Node)))]⟩) ?_ ?_
          · refine .cv (VOk.arith (op := .add) (k := .i64) (a := x10_1) (b := 1) rfl rfl rfl rfl) rfl rfl ?_
            refine .cv (VOk.mv (d := (.v (.int .i64 (IntKind.i64.wrap (x10_1 + 1))))) rfl rfl) rfl rfl ?_
            exact .done (.rf rfl rfl)
          exact ⟨m5, Nat.lt_succ_self m5, y4_2, (IntKind.i64.wrap (x10_1 + 1)), rfl, H⟩
    · replace H := ifF H hb18
      refine Ok.exit ?_
      refine Ok.seq ?_
      refine Ok.region (σ' := ⟨[(2, (.sref 4)), (3, (.v (.bool true)))], [(4, (.rows true 27 6 (y4_2.map e_api_Node)))]⟩) ?_ ?_
      · refine .cv (VOk.mv (d := (.sref 4)) rfl rfl) rfl rfl ?_
        refine .cv (VOk.asg (d := (.sref 4)) rfl rfl) rfl rfl ?_
        refine .cv (VOk.asg (d := (.v (.bool true))) rfl rfl) rfl rfl ?_
        exact .done (.rf rfl rfl)
      refine Ok.frzL 4 (e := e_api_Node) (xs := y4_2) rfl ?_
      refine Ok.ret ?_
      obtain rfl := Option.some.inj H
      exact ⟨.inl rfl, ⟨_, (.cons (.tmp rfl) (.cons (.tmp rfl) .nil)), rfl⟩, trivial⟩

/-! watchbill/lists.is: function 80 -/
def lists_is (a0 : T_api_Node) (a1 : Str) : Option Bool := (((if ((a0.Kind == 1) == true) = true then lists_own a1 else some default)).bind fun (t2 : T_api_Name) => some ((a0.Kind == 1) && (a0.Name.Space == t2.Space && (a0.Name.Local == t2.Local && true))))
theorem lists_is.ok {a0 : T_api_Node} {a1 : Str} {r : Bool} (H : lists_is a0 a1 = some r) : Vx.Fn Try.prog 80 [(.agg (e_api_Node a0)), (S a1)] [] (.v (.bool r)) [] := by
  unfold lists_is at H
  refine Vx.Fn.of_okR Try.func80 rfl (Nat.le_of_ble_eq_true rfl) ?_
  refine Ok.seq ?_
  refine Ok.region (σ' := ⟨[(1, (S a1)), (2, (.bref 2 0))], [(2, (.box .ex (c_api_Node a0)))]⟩) ?_ ?_
  · refine OpsOk.cut1 0 (.agg [(.v (.int .i64 a0.Kind)), (S a0.Name.Space), (S a0.Name.Local), (L 3 e_api_Attr a0.Attrs), (L 6 e_api_Node a0.Kids), (S a0.Text)]) (DLe.of_eq (congrArg D.agg (e_api_Node_c _).symm)) ?_
    refine OpsOk.cons rfl (OpOk.box 2 (cells := [(.v (.int .i64 a0.Kind)), (S a0.Name.Space), (S a0.Name.Local), (L 3 e_api_Attr a0.Attrs), (L 6 e_api_Node a0.Kids), (S a0.Text)]) rfl rfl rfl rfl) ?_
    refine .cv (VOk.asg (d := (.v (.bool false))) rfl rfl) rfl rfl ?_
    exact .done (.rf rfl rfl)
  refine Ok.seq ?_
  obtain ⟨t2, h3, H⟩ := bindE H
  refine Ok.drawE (σ' := ⟨[(4, (.v (.bool ((a0.Kind == 1) && (a0.Name.Space == t2.Space && (a0.Name.Local == t2.Local && true))))))], []⟩) [⟨true, [(2, (.bref 2 0))], (.bref 2 0)⟩, ⟨true, [(5, (.bref 2 0))], (.v (.int .i64 a0.Kind))⟩, ⟨true, [(6, (.v (.int .i64 a0.Kind)))], (.v (.bool (a0.Kind == 1)))⟩, ⟨true, [(7, (.v (.bool (a0.Kind == 1))))], (.v (.bool (a0.Kind == 1)))⟩, It.I ((a0.Kind == 1) == true) [(2, (.bref 2 0)), (8, (.v (.bool (a0.Kind == 1))))] (.bref 2 1), It.I ((a0.Kind == 1) == true) [(9, (bif ((a0.Kind == 1) == true) then (.bref 2 1) else .v undef)), (8, (.v (.bool (a0.Kind == 1))))] (.agg (e_api_Name a0.Name)), It.I ((a0.Kind == 1) == true) [(1, (S a1)), (8, (.v (.bool (a0.Kind == 1))))] (S a1), It.I ((a0.Kind == 1) == true) [(11, (bif ((a0.Kind == 1) == true) then (S a1) else .v undef)), (8, (.v (.bool (a0.Kind == 1))))] (.agg (e_api_Name t2)), It.I ((a0.Kind == 1) == true) [(10, (bif ((a0.Kind == 1) == true) then (.agg (e_api_Name a0.Name)) else .v undef)), (12, (bif ((a0.Kind == 1) == true) then (.agg (e_api_Name t2)) else .v undef)), (8, (.v (.bool (a0.Kind == 1))))] (.v (.bool (a0.Name.Space == t2.Space && (a0.Name.Local == t2.Local && true)))), ⟨true, [(8, (.v (.bool (a0.Kind == 1)))), (13, (bif ((a0.Kind == 1) == true) then (.v (.bool (a0.Name.Space == t2.Space && (a0.Name.Local == t2.Local && true)))) else .v undef))], (.v (.bool ((a0.Kind == 1) && (a0.Name.Space == t2.Space && (a0.Name.Local == t2.Local && true)))))⟩, ⟨true, [(14, (.v (.bool ((a0.Kind == 1) && (a0.Name.Space == t2.Space && (a0.Name.Local == t2.Local && true))))))], (.v (.bool ((a0.Kind == 1) && (a0.Name.Space == t2.Space && (a0.Name.Local == t2.Local && true)))))⟩] [[], [0], [1], [2], [3], [3, 4], [3], [3, 6], [3, 5, 7], [3, 8], [9]] mixed (by kernel_rfl) ?_ ?_
  · refine TxtE.cons rfl ⟨.same _, trivial⟩ rfl (VOk.g (VOk.to (VOk.fieldB rfl Try.underlying27 rfl sz3 rfl rfl) rfl)) ?_
    refine TxtE.cons rfl ⟨.same _, trivial⟩ rfl (VOk.g (VOk.loadB (d := (.v (.int .i64 a0.Kind))) rfl Try.underlying3 rfl rfl rfl rfl)) ?_
    refine TxtE.cons rfl ⟨.same _, trivial⟩ rfl (VOk.g (VOk.arith (op := .eql) (k := .i64) (a := a0.Kind) (b := 1) rfl rfl rfl rfl)) ?_
    refine TxtE.cons rfl ⟨.same _, trivial⟩ rfl (VOk.g (VOk.mv (d := (.v (.bool (a0.Kind == 1)))) rfl rfl)) ?_
    refine TxtE.consI rfl ⟨.same _, .same _, trivial⟩ rfl rfl (.one rfl) (fun hw1 => (VOk.g (VOk.to (VOk.fieldB rfl Try.underlying27 rfl sz23 rfl rfl) rfl))) ?_
    refine TxtE.consI rfl ⟨.same _, .same _, trivial⟩ rfl rfl (.one rfl) (fun hw1 => (GOk.fr (fr' := [(9, (.bref 2 1))]) ⟨DLe.of_eq (cT hw1).symm, trivial⟩ (VOk.g (VOk.to (d' := (.agg (e_api_Name a0.Name))) (.loadBAgg rfl Try.underlying23 rfl sz23 rfl rfl rfl) rfl)))) ?_
    refine TxtE.consI rfl ⟨.same _, .same _, trivial⟩ rfl rfl (.one rfl) (fun hw1 => (VOk.g (VOk.mv (d := (S a1)) rfl rfl))) ?_
    refine TxtE.consI rfl ⟨.same _, .same _, trivial⟩ rfl rfl (.one rfl) (fun hw1 => (GOk.fr (fr' := [(11, (S a1))]) ⟨DLe.of_eq (cT hw1).symm, trivial⟩ (GOk.call rfl rfl cl84 rfl (lists_own.ok (ifT h3 hw1)) rfl))) ?_
    refine TxtE.consI rfl ⟨.same _, .same _, .same _, trivial⟩ rfl rfl (.one rfl) (fun hw1 => (GOk.fr (fr' := [(10, (.agg (e_api_Name a0.Name))), (12, (.agg (e_api_Name t2)))]) ⟨DLe.of_eq (cT hw1).symm, DLe.of_eq (cT hw1).symm, trivial⟩ (VOk.g (VOk.eqS' (op := .eql) (d := (.v (.bool (a0.Name.Space == t2.Space && (a0.Name.Local == t2.Local && true))))) rfl (.inl rfl) (eqt23 9998) ag23 eg23 rfl rfl rfl rfl)))) ?_
    refine TxtE.cons rfl ⟨.same _, .same _, trivial⟩ rfl (VOk.g (VOk.to (VOk.pickI (b := (a0.Kind == 1)) (p := (a0.Name.Space == t2.Space && (a0.Name.Local == t2.Local && true))) (q := false) rfl rfl (fun hp4 => (cT (t_beq hp4))) (fun hp4 => rfl)) (pickAnd (a0.Kind == 1) (a0.Name.Space == t2.Space && (a0.Name.Local == t2.Local && true))))) ?_
    refine TxtE.cons rfl ⟨.same _, trivial⟩ rfl (VOk.g (VOk.asg (d := (.v (.bool ((a0.Kind == 1) && (a0.Name.Space == t2.Space && (a0.Name.Local == t2.Local && true)))))) rfl rfl)) ?_
    exact .done (.rf rfl rfl)
  refine Ok.ret ?_
  obtain rfl := Option.some.inj H
  exact ⟨.inl rfl, ⟨_, (.cons (.tmp rfl) .nil), rfl⟩, trivial⟩

/-! watchbill/lists.display: function 81 -/
def lists_display.l0 (k : Nat) (a0 : T_api_Node) : Nat → Int → Str → Str → List T_api_Attr → List T_api_Node → Str → Int → Option (Str × Bool)
  | 0, _, _, _, _, _, _, _ => none
  | m15 + 1, y1_0_2, y1_1_3, y1_2_4, y1_3_5, y1_4_6, y1_5_7, x9_1 => (if (decide (x9_1 < (a0.Kids.length : Int))) = true then (if (0 : Int) ≤ x9_1 ∧ x9_1 < (a0.Kids.length : Int) then (((if ((((rd a0.Kids x9_1).Kind) == 1) == true) = true then lists_own ([] : Str) else some default)).bind fun (t18 : T_api_Name) => (if ((((rd a0.Kids x9_1).Kind) == 1) && (((rd a0.Kids x9_1).Name.Space) == t18.Space)) = true then some (([] : Str), false) else lists_display.l0 k a0 m15 y1_0_2 y1_1_3 y1_2_4 y1_3_5 y1_4_6 y1_5_7 (IntKind.i64.wrap (x9_1 + 1)))) else none) else ((tree_Value k (T_api_Node.mk y1_0_2 (T_api_Name.mk y1_1_3 y1_2_4) y1_3_5 y1_4_6 y1_5_7)).bind fun (t22 : Str) => ((utf_Trim k t22).bind fun (t24 : Str) => ((lists_is (T_api_Node.mk y1_0_2 (T_api_Name.mk y1_1_3 y1_2_4) y1_3_5 y1_4_6 y1_5_7) ([100, 105, 115, 112, 108, 97, 121, 45, 110, 97, 109, 101] : Str)).bind fun (t26 : Bool) => some (t24, t26)))))
def lists_display (k : Nat) (a0 : T_api_Node) : Option (Str × Bool) := lists_display.l0 k a0 k a0.Kind a0.Name.Space a0.Name.Local a0.Attrs a0.Kids a0.Text 0
theorem lists_display.ok {k : Nat} {a0 : T_api_Node} {r : Str × Bool} (H : lists_display k a0 = some r) : Vx.Fn Try.prog 81 [(.agg (e_api_Node a0))] [] (.tup [(S r.1), (.v (.bool r.2))]) [] := by
  unfold lists_display at H
  refine Vx.Fn.of_okR Try.func81 rfl (Nat.le_of_ble_eq_true rfl) ?_
  refine Ok.seq ?_
  refine Ok.region (σ' := ⟨[(1, (.bref 1 0))], [(1, (.box .ex (c_api_Node a0)))]⟩) ?_ ?_
  · refine OpsOk.cut1 0 (.agg [(.v (.int .i64 a0.Kind)), (S a0.Name.Space), (S a0.Name.Local), (L 3 e_api_Attr a0.Attrs), (L 6 e_api_Node a0.Kids), (S a0.Text)]) (DLe.of_eq (congrArg D.agg (e_api_Node_c _).symm)) ?_
    refine OpsOk.cons rfl (OpOk.box 1 (cells := [(.v (.int .i64 a0.Kind)), (S a0.Name.Space), (S a0.Name.Local), (L 3 e_api_Attr a0.Attrs), (L 6 e_api_Node a0.Kids), (S a0.Text)]) rfl rfl rfl rfl) ?_
    refine .cv (VOk.asg (d := (S ([] : Str))) rfl rfl) rfl rfl ?_
    refine .cv (VOk.asg (d := (.v (.bool false))) rfl rfl) rfl rfl ?_
    exact .done (.rf rfl rfl)
  refine Ok.seq ?_
  refine Ok.seq ?_
  refine Ok.region (σ' := ⟨[(1, (.bref 1 0)), (7, (L 6 e_api_Node a0.Kids)), (8, (.v (.int .i64 (a0.Kids.length : Int)))), (9, (.v (.int .i64 0)))], [(1, (.box .ex (c_api_Node a0)))]⟩) ?_ ?_
  · refine .cv (VOk.to (VOk.fieldB rfl Try.underlying27 rfl sz25 rfl rfl) rfl) rfl rfl ?_
    refine .cv (VOk.loadB (d := (L 6 e_api_Node a0.Kids)) rfl Try.underlying25 rfl rfl rfl rfl) rfl rfl ?_
    refine .cv (VOk.lenL (e := e_api_Node) (xs := a0.Kids) rfl Try.underlying25 rfl) rfl rfl ?_
    refine .cv (VOk.mv (d := (.v (.int .i64 0))) rfl rfl) rfl rfl ?_
    exact .done (.rf rfl rfl)
  refine Ok.block ?_
  refine Ok.le (σ' := ⟨[(1, (.bref 1 0)), (7, (L 6 e_api_Node a0.Kids)), (8, (.v (.int .i64 (a0.Kids.length : Int)))), (9, (.v (.int .i64 0)))], [(1, (.box .ex (c_api_Node a0)))]⟩) (.rf rfl rfl) ?_
  refine Ok.loop (fun m15 σ => ∃ (y1_0_2 : Int) (y1_1_3 : Str) (y1_2_4 : Str) (y1_3_5 : List T_api_Attr) (y1_4_6 : List T_api_Node) (y1_5_7 : Str) (x9_1 : Int), σ = ⟨[(1, (.bref 1 0)), (7, (L 6 e_api_Node a0.Kids)), (8, (.v (.int .i64 (a0.Kids.length : Int)))), (9, (.v (.int .i64 x9_1)))], [(1, (.box .ex [(.v (.int .i64 y1_0_2)), (S y1_1_3), (S y1_2_4), (L 3 e_api_Attr y1_3_5), (L 6 e_api_Node y1_4_6), (S y1_5_7)]))]⟩ ∧ lists_display.l0 k a0 m15 y1_0_2 y1_1_3 y1_2_4 y1_3_5 y1_4_6 y1_5_7 x9_1 = some r) k ⟨a0.Kind, a0.Name.Space, a0.Name.Local, a0.Attrs, a0.Kids, a0.Text, 0, rfl, H⟩ ?_
  rintro m15 σ ⟨y1_0_2, y1_1_3, y1_2_4, y1_3_5, y1_4_6, y1_5_7, x9_1, rfl, H⟩
  cases m15 with
  | zero => exact absurd H (by simp [lists_display.l0])
  | succ m15 =>
    unfold lists_display.l0 at H
    refine Ok.seq ?_
    refine Ok.region (σ' := ⟨[(1, (.bref 1 0)), (7, (L 6 e_api_Node a0.Kids)), (8, (.v (.int .i64 (a0.Kids.length : Int)))), (9, (.v (.int .i64 x9_1))), (10, (.v (.bool (decide (x9_1 < (a0.Kids.length : Int))))))], [(1, (.box .ex [(.v (.int .i64 y1_0_2)), (S y1_1_3), (S y1_2_4), (L 3 e_api_Attr y1_3_5), (L 6 e_api_Node y1_4_6), (S y1_5_7)]))]⟩) ?_ ?_
    · refine .cv (VOk.arith (op := .lss) (k := .i64) (a := x9_1) (b := (a0.Kids.length : Int)) rfl rfl rfl rfl) rfl rfl ?_
      exact .done (.rf rfl rfl)
    refine Ok.seq ?_
    refine Ok.test (b := (decide (x9_1 < (a0.Kids.length : Int)))) rfl (fun hb28 => ?_) (fun hb28 => ?_)
    · replace H := ifT H hb28
      refine Ok.skip ?_
      refine Ok.seq ?_
      refine Ok.block ?_
      refine Ok.seq ?_
      obtain ⟨c16, H⟩ := assertE H
      refine Ok.region (σ' := ⟨[(1, (.bref 1 0)), (5, (.bref 5 0)), (7, (L 6 e_api_Node a0.Kids)), (8, (.v (.int .i64 (a0.Kids.length : Int)))), (9, (.v (.int .i64 x9_1)))], [(1, (.box .ex [(.v (.int .i64 y1_0_2)), (S y1_1_3), (S y1_2_4), (L 3 e_api_Attr y1_3_5), (L 6 e_api_Node y1_4_6), (S y1_5_7)])), (5, (.box .ex (c_api_Node (rd a0.Kids x9_1))))]⟩) ?_ ?_
      · refine .cv (VOk.indexL (sz := 6) (e := e_api_Node) (xs := a0.Kids) (i := x9_1) rfl Try.underlying25 sz27 rfl rfl c16) rfl rfl ?_
        refine .cv (VOk.to (d' := (.agg (e_api_Node (rd a0.Kids x9_1)))) (.loadFpAgg rfl Try.underlying27 rfl sz27 rfl rfl) rfl) rfl rfl ?_
        refine OpsOk.cons rfl (OpOk.alloc 5 [none, none, none, some 3, some 6, none] rfl zo27 rfl rfl) ?_
        refine OpsOk.cut1 12 (.agg [(.v (.int .i64 ((rd a0.Kids x9_1).Kind))), (S ((rd a0.Kids x9_1).Name.Space)), (S ((rd a0.Kids x9_1).Name.Local)), (L 3 e_api_Attr ((rd a0.Kids x9_1).Attrs)), (L 6 e_api_Node ((rd a0.Kids x9_1).Kids)), (S ((rd a0.Kids x9_1).Text))]) (DLe.of_eq (congrArg D.agg (e_api_Node_c _).symm)) ?_
        refine OpsOk.cons rfl (OpOk.to (σ2 := St.put ⟨_, (5, (.box .ex (c_api_Node (rd a0.Kids x9_1)))) :: _⟩ _ .junk) (.storeB rfl sz27 rfl rfl rfl rfl rfl rfl) rfl) ?_
        exact .done (.rf rfl rfl)
      refine Ok.seq ?_
      obtain ⟨t18, h19, H⟩ := bindE H
      refine Ok.drawE (σ' := ⟨[(1, (.bref 1 0)), (7, (L 6 e_api_Node a0.Kids)), (8, (.v (.int .i64 (a0.Kids.length : Int)))), (9, (.v (.int .i64 x9_1))), (23, (.v (.bool ((((rd a0.Kids x9_1).Kind) == 1) && (((rd a0.Kids x9_1).Name.Space) == t18.Space)))))], [(1, (.box .ex [(.v (.int .i64 y1_0_2)), (S y1_1_3), (S y1_2_4), (L 3 e_api_Attr y1_3_5), (L 6 e_api_Node y1_4_6), (S y1_5_7)]))]⟩) [⟨true, [(5, (.bref 5 0))], (.bref 5 0)⟩, ⟨true, [(13, (.bref 5 0))], (.v (.int .i64 ((rd a0.Kids x9_1).Kind)))⟩, ⟨true, [(14, (.v (.int .i64 ((rd a0.Kids x9_1).Kind))))], (.v (.bool (((rd a0.Kids x9_1).Kind) == 1)))⟩, ⟨true, [(15, (.v (.bool (((rd a0.Kids x9_1).Kind) == 1))))], (.v (.bool (((rd a0.Kids x9_1).Kind) == 1)))⟩, It.I ((((rd a0.Kids x9_1).Kind) == 1) == true) [(5, (.bref 5 0)), (16, (.v (.bool (((rd a0.Kids x9_1).Kind) == 1))))] (.bref 5 1), It.I ((((rd a0.Kids x9_1).Kind) == 1) == true) [(17, (bif ((((rd a0.Kids x9_1).Kind) == 1) == true) then (.bref 5 1) else .v undef)), (16, (.v (.bool (((rd a0.Kids x9_1).Kind) == 1))))] (.bref 5 1), It.I ((((rd a0.Kids x9_1).Kind) == 1) == true) [(18, (bif ((((rd a0.Kids x9_1).Kind) == 1) == true) then (.bref 5 1) else .v undef)), (16, (.v (.bool (((rd a0.Kids x9_1).Kind) == 1))))] (S ((rd a0.Kids x9_1).Name.Space)), It.I ((((rd a0.Kids x9_1).Kind) == 1) == true) [(16, (.v (.bool (((rd a0.Kids x9_1).Kind) == 1))))] (.agg (e_api_Name t18)), It.I ((((rd a0.Kids x9_1).Kind) == 1) == true) [(20, (bif ((((rd a0.Kids x9_1).Kind) == 1) == true) then (.agg (e_api_Name t18)) else .v undef)), (16, (.v (.bool (((rd a0.Kids x9_1).Kind) == 1))))] (S t18.Space), It.I ((((rd a0.Kids x9_1).Kind) == 1) == true) [(19, (bif ((((rd a0.Kids x9_1).Kind) == 1) == true) then (S ((rd a0.Kids x9_1).Name.Space)) else .v undef)), (21, (bif ((((rd a0.Kids x9_1).Kind) == 1) == true) then (S t18.Space) else .v undef)), (16, (.v (.bool (((rd a0.Kids x9_1).Kind) == 1))))] (.v (.bool (((rd a0.Kids x9_1).Name.Space) == t18.Space))), ⟨true, [(16, (.v (.bool (((rd a0.Kids x9_1).Kind) == 1)))), (22, (bif ((((rd a0.Kids x9_1).Kind) == 1) == true) then (.v (.bool (((rd a0.Kids x9_1).Name.Space) == t18.Space))) else .v undef))], (.v (.bool ((((rd a0.Kids x9_1).Kind) == 1) && (((rd a0.Kids x9_1).Name.Space) == t18.Space))))⟩] [[], [0], [1], [2], [3], [3, 4], [3, 5], [3], [3, 7], [3, 6, 8], [3, 9]] mixed (by kernel_rfl) ?_ ?_
      · refine TxtE.cons rfl ⟨.same _, trivial⟩ rfl (VOk.g (VOk.to (VOk.fieldB rfl Try.underlying27 rfl sz3 rfl rfl) rfl)) ?_
        refine TxtE.cons rfl ⟨.same _, trivial⟩ rfl (VOk.g (VOk.loadB (d := (.v (.int .i64 ((rd a0.Kids x9_1).Kind)))) rfl Try.underlying3 rfl rfl rfl rfl)) ?_
        refine TxtE.cons rfl ⟨.same _, trivial⟩ rfl (VOk.g (VOk.arith (op := .eql) (k := .i64) (a := (rd a0.Kids x9_1).Kind) (b := 1) rfl rfl rfl rfl)) ?_
        refine TxtE.cons rfl ⟨.same _, trivial⟩ rfl (VOk.g (VOk.mv (d := (.v (.bool (((rd a0.Kids x9_1).Kind) == 1)))) rfl rfl)) ?_
        refine TxtE.consI rfl ⟨.same _, .same _, trivial⟩ rfl rfl (.one rfl) (fun hw17 => (VOk.g (VOk.to (VOk.fieldB rfl Try.underlying27 rfl sz23 rfl rfl) rfl))) ?_
        refine TxtE.consI rfl ⟨.same _, .same _, trivial⟩ rfl rfl (.one rfl) (fun hw17 => (GOk.fr (fr' := [(17, (.bref 5 1))]) ⟨DLe.of_eq (cT hw17).symm, trivial⟩ (VOk.g (VOk.to (VOk.fieldB rfl Try.underlying23 rfl sz9 rfl rfl) rfl)))) ?_
        refine TxtE.consI rfl ⟨.same _, .same _, trivial⟩ rfl rfl (.one rfl) (fun hw17 => (GOk.fr (fr' := [(18, (.bref 5 1))]) ⟨DLe.of_eq (cT hw17).symm, trivial⟩ (VOk.g (VOk.loadB (d := (S ((rd a0.Kids x9_1).Name.Space))) rfl Try.underlying9 rfl rfl rfl rfl)))) ?_
        refine TxtE.consI rfl ⟨.same _, trivial⟩ rfl rfl (.one rfl) (fun hw17 => (GOk.call rfl rfl cl84 rfl (lists_own.ok (ifT h19 hw17)) rfl)) ?_
        refine TxtE.consI rfl ⟨.same _, .same _, trivial⟩ rfl rfl (.one rfl) (fun hw17 => (GOk.fr (fr' := [(20, (.agg (e_api_Name t18)))]) ⟨DLe.of_eq (cT hw17).symm, trivial⟩ (VOk.g (VOk.field (d := (S t18.Space)) rfl Try.underlying23 rfl Try.underlying9 rfl rfl rfl)))) ?_
        refine TxtE.consI rfl ⟨.same _, .same _, .same _, trivial⟩ rfl rfl (.one rfl) (fun hw17 => (GOk.fr (fr' := [(19, (S ((rd a0.Kids x9_1).Name.Space))), (21, (S t18.Space))]) ⟨DLe.of_eq (cT hw17).symm, DLe.of_eq (cT hw17).symm, trivial⟩ (VOk.g (VOk.strOp (op := .eql) (a := (rd a0.Kids x9_1).Name.Space) (b := t18.Space) rfl rfl rfl rfl)))) ?_
        refine TxtE.cons rfl ⟨.same _, .same _, trivial⟩ rfl (VOk.g (VOk.to (VOk.pickI (b := (((rd a0.Kids x9_1).Kind) == 1)) (p := (((rd a0.Kids x9_1).Name.Space) == t18.Space)) (q := false) rfl rfl (fun hp20 => (cT (t_beq hp20))) (fun hp20 => rfl)) (pickAnd (((rd a0.Kids x9_1).Kind) == 1) (((rd a0.Kids x9_1).Name.Space) == t18.Space)))) ?_
        exact .done (.rf rfl rfl)
      refine Ok.test (b := ((((rd a0.Kids x9_1).Kind) == 1) && (((rd a0.Kids x9_1).Name.Space) == t18.Space))) rfl (fun hb21 => ?_) (fun hb21 => ?_)
      · replace H := ifT H hb21
        refine Ok.seq ?_
        refine Ok.region (σ' := ⟨[(2, (S ([] : Str))), (3, (.v (.bool false)))], []⟩) ?_ ?_
        · refine .cv (VOk.asg (d := (S ([] : Str))) rfl rfl) rfl rfl ?_
          refine .cv (VOk.asg (d := (.v (.bool false))) rfl rfl) rfl rfl ?_
          exact .done (.rf rfl rfl)
        refine Ok.ret ?_
        obtain rfl := Option.some.inj H
        exact ⟨.inl rfl, ⟨_, (.cons (.tmp rfl) (.cons (.tmp rfl) .nil)), rfl⟩, trivial⟩
      · replace H := ifF H hb21
        refine Ok.skip ?_
        refine Ok.region (σ' := ⟨[(1, (.bref 1 0)), (7, (L 6 e_api_Node a0.Kids)), (8, (.v (.int .i64 (a0.Kids.length : Int)))), (9, (.v (.int .i64 (IntKind.i64.wrap (x9_1 + 1)))))], [(1, (.box .ex [(.v (.int .i64 y1_0_2)), (S y1_1_3), (S y1_2_4), (L 3 e_api_Attr y1_3_5), (L 6 e_api_Node y1_4_6), (S y1_5_7)]))]⟩) ?_ ?_
        · refine .cv (VOk.arith (op := .add) (k := .i64) (a := x9_1) (b := 1) rfl rfl rfl rfl) rfl rfl ?_
          refine .cv (VOk.mv (d := (.v (.int .i64 (IntKind.i64.wrap (x9_1 + 1))))) rfl rfl) rfl rfl ?_
          exact .done (.rf rfl rfl)
        exact ⟨m15, Nat.lt_succ_self m15, y1_0_2, y1_1_3, y1_2_4, y1_3_5, y1_4_6, y1_5_7, (IntKind.i64.wrap (x9_1 + 1)), rfl, H⟩
    · replace H := ifF H hb28
      refine Ok.exit ?_
      refine Ok.seq ?_
      obtain ⟨t22, h23, H⟩ := bindE H
      obtain ⟨t24, h25, H⟩ := bindE H
      obtain ⟨t26, h27, H⟩ := bindE H
      refine Ok.drawE (σ' := ⟨[(2, (S t24)), (3, (.v (.bool t26)))], []⟩) [⟨true, [(1, (.bref 1 0))], (.agg (e_api_Node (T_api_Node.mk y1_0_2 (T_api_Name.mk y1_1_3 y1_2_4) y1_3_5 y1_4_6 y1_5_7)))⟩, ⟨true, [(25, (.agg (e_api_Node (T_api_Node.mk y1_0_2 (T_api_Name.mk y1_1_3 y1_2_4) y1_3_5 y1_4_6 y1_5_7))))], (S t22)⟩, ⟨true, [(26, (S t22))], (S t24)⟩, ⟨true, [(1, (.bref 1 0))], (.agg (e_api_Node (T_api_Node.mk y1_0_2 (T_api_Name.mk y1_1_3 y1_2_4) y1_3_5 y1_4_6 y1_5_7)))⟩, ⟨true, [(28, (.agg (e_api_Node (T_api_Node.mk y1_0_2 (T_api_Name.mk y1_1_3 y1_2_4) y1_3_5 y1_4_6 y1_5_7))))], (.v (.bool t26))⟩, ⟨true, [(27, (S t24))], (S t24)⟩, ⟨true, [(29, (.v (.bool t26)))], (.v (.bool t26))⟩] [[], [0], [1], [], [3], [2], [4]] mixed (by kernel_rfl) ?_ ?_
      · refine TxtE.cons rfl ⟨.same _, trivial⟩ rfl (VOk.g (VOk.to (d' := (.agg (e_api_Node (T_api_Node.mk y1_0_2 (T_api_Name.mk y1_1_3 y1_2_4) y1_3_5 y1_4_6 y1_5_7)))) (.loadBAgg rfl Try.underlying27 rfl sz27 rfl rfl rfl) (congrArg D.agg (e_api_Node_c (T_api_Node.mk y1_0_2 (T_api_Name.mk y1_1_3 y1_2_4) y1_3_5 y1_4_6 y1_5_7)).symm))) ?_
        refine TxtE.cons rfl ⟨.same _, trivial⟩ rfl (GOk.call rfl rfl cl70 rfl (tree_Value.ok h23) rfl) ?_
        refine TxtE.cons rfl ⟨.same _, trivial⟩ rfl (GOk.call rfl rfl cl25 rfl (utf_Trim.ok h25) rfl) ?_
        refine TxtE.cons rfl ⟨.same _, trivial⟩ rfl (VOk.g (VOk.to (d' := (.agg (e_api_Node (T_api_Node.mk y1_0_2 (T_api_Name.mk y1_1_3 y1_2_4) y1_3_5 y1_4_6 y1_5_7)))) (.loadBAgg rfl Try.underlying27 rfl sz27 rfl rfl rfl) (congrArg D.agg (e_api_Node_c (T_api_Node.mk y1_0_2 (T_api_Name.mk y1_1_3 y1_2_4) y1_3_5 y1_4_6 y1_5_7)).symm))) ?_
        refine TxtE.cons rfl ⟨.same _, trivial⟩ rfl (GOk.call rfl rfl cl80 rfl (lists_is.ok h27) rfl) ?_
        refine TxtE.cons rfl ⟨.same _, trivial⟩ rfl (VOk.g (VOk.asg (d := (S t24)) rfl rfl)) ?_
        refine TxtE.cons rfl ⟨.same _, trivial⟩ rfl (VOk.g (VOk.asg (d := (.v (.bool t26))) rfl rfl)) ?_
        exact .done (.rf rfl rfl)
      refine Ok.ret ?_
      obtain rfl := Option.some.inj H
      exact ⟨.inl rfl, ⟨_, (.cons (.tmp rfl) (.cons (.tmp rfl) .nil)), rfl⟩, trivial⟩

/-! watchbill/lists.attr: function 85 -/
def lists_attr (a0 : T_api_Node) : Option (Str × Int) := ((lists_is a0 ([101, 110, 116, 114, 121] : Str)).bind fun (t1 : Bool) => (if t1 = true then some (([117, 114, 105] : Str), 1) else ((lists_is a0 ([101, 120, 116, 101, 114, 110, 97, 108] : Str)).bind fun (t3 : Bool) => (if t3 = true then some (([97, 110, 99, 104, 111, 114] : Str), 3) else ((lists_is a0 ([101, 110, 116, 114, 121, 45, 114, 101, 102] : Str)).bind fun (t5 : Bool) => (if t5 = true then some (([114, 101, 102] : Str), 4) else some (([] : Str), 0)))))))
theorem lists_attr.ok {a0 : T_api_Node} {r : Str × Int} (H : lists_attr a0 = some r) : Vx.Fn Try.prog 85 [(.agg (e_api_Node a0))] [] (.tup [(S r.1), (.v (.int .i64 r.2))]) [] := by
  unfold lists_attr at H
  refine Vx.Fn.of_okR Try.func85 rfl (Nat.le_of_ble_eq_true rfl) ?_
  refine Ok.seq ?_
  refine Ok.region (σ' := ⟨[(1, (.bref 1 0))], [(1, (.box .ex (c_api_Node a0)))]⟩) ?_ ?_
  · refine OpsOk.cut1 0 (.agg [(.v (.int .i64 a0.Kind)), (S a0.Name.Space), (S a0.Name.Local), (L 3 e_api_Attr a0.Attrs), (L 6 e_api_Node a0.Kids), (S a0.Text)]) (DLe.of_eq (congrArg D.agg (e_api_Node_c _).symm)) ?_
    refine OpsOk.cons rfl (OpOk.box 1 (cells := [(.v (.int .i64 a0.Kind)), (S a0.Name.Space), (S a0.Name.Local), (L 3 e_api_Attr a0.Attrs), (L 6 e_api_Node a0.Kids), (S a0.Text)]) rfl rfl rfl rfl) ?_
    refine .cv (VOk.asg (d := (S ([] : Str))) rfl rfl) rfl rfl ?_
    refine .cv (VOk.asg (d := (.v (.int .i64 0))) rfl rfl) rfl rfl ?_
    exact .done (.rf rfl rfl)
  refine Ok.seq ?_
  refine Ok.block ?_
  refine Ok.seq ?_
  obtain ⟨t1, h2, H⟩ := bindE H
  refine Ok.region (σ' := ⟨[(1, (.bref 1 0)), (4, (.v (.bool t1)))], [(1, (.box .ex (c_api_Node a0)))]⟩) ?_ ?_
  · refine .cv (VOk.to (d' := (.agg (e_api_Node a0))) (.loadBAgg rfl Try.underlying27 rfl sz27 rfl rfl rfl) (congrArg D.agg (e_api_Node_c a0).symm)) rfl rfl ?_
    refine .cg (GOk.call rfl rfl cl80 rfl (lists_is.ok h2) rfl) rfl rfl ?_
    refine .cv (VOk.asg (d := (.v (.bool t1))) rfl rfl) rfl rfl ?_
    exact .done (.rf rfl rfl)
  refine Ok.test (b := t1) rfl (fun hb9 => ?_) (fun hb9 => ?_)
  · replace H := ifT H hb9
    refine Ok.seq ?_
    refine Ok.region (σ' := ⟨[(2, (S ([117, 114, 105] : Str))), (3, (.v (.int .i64 1)))], []⟩) ?_ ?_
    · refine .cv (VOk.asg (d := (S ([117, 114, 105] : Str))) rfl rfl) rfl rfl ?_
      refine .cv (VOk.asg (d := (.v (.int .i64 1))) rfl rfl) rfl rfl ?_
      exact .done (.rf rfl rfl)
    refine Ok.ret ?_
    obtain rfl := Option.some.inj H
    exact ⟨.inl rfl, ⟨_, (.cons (.tmp rfl) (.cons (.tmp rfl) .nil)), rfl⟩, trivial⟩
  · replace H := ifF H hb9
    refine Ok.seq ?_
    obtain ⟨t3, h4, H⟩ := bindE H
    refine Ok.region (σ' := ⟨[(1, (.bref 1 0)), (7, (.v (.bool t3)))], [(1, (.box .ex (c_api_Node a0)))]⟩) ?_ ?_
    · refine .cv (VOk.to (d' := (.agg (e_api_Node a0))) (.loadBAgg rfl Try.underlying27 rfl sz27 rfl rfl rfl) (congrArg D.agg (e_api_Node_c a0).symm)) rfl rfl ?_
      refine .cg (GOk.call rfl rfl cl80 rfl (lists_is.ok h4) rfl) rfl rfl ?_
      refine .cv (VOk.asg (d := (.v (.bool t3))) rfl rfl) rfl rfl ?_
      exact .done (.rf rfl rfl)
    refine Ok.test (b := t3) rfl (fun hb8 => ?_) (fun hb8 => ?_)
    · replace H := ifT H hb8
      refine Ok.seq ?_
      refine Ok.region (σ' := ⟨[(2, (S ([97, 110, 99, 104, 111, 114] : Str))), (3, (.v (.int .i64 3)))], []⟩) ?_ ?_
      · refine .cv (VOk.asg (d := (S ([97, 110, 99, 104, 111, 114] : Str))) rfl rfl) rfl rfl ?_
        refine .cv (VOk.asg (d := (.v (.int .i64 3))) rfl rfl) rfl rfl ?_
        exact .done (.rf rfl rfl)
      refine Ok.ret ?_
      obtain rfl := Option.some.inj H
      exact ⟨.inl rfl, ⟨_, (.cons (.tmp rfl) (.cons (.tmp rfl) .nil)), rfl⟩, trivial⟩
    · replace H := ifF H hb8
      refine Ok.seq ?_
      obtain ⟨t5, h6, H⟩ := bindE H
      refine Ok.region (σ' := ⟨[(10, (.v (.bool t5)))], []⟩) ?_ ?_
      · refine .cv (VOk.to (d' := (.agg (e_api_Node a0))) (.loadBAgg rfl Try.underlying27 rfl sz27 rfl rfl rfl) (congrArg D.agg (e_api_Node_c a0).symm)) rfl rfl ?_
        refine .cg (GOk.call rfl rfl cl80 rfl (lists_is.ok h6) rfl) rfl rfl ?_
        refine .cv (VOk.asg (d := (.v (.bool t5))) rfl rfl) rfl rfl ?_
        exact .done (.rf rfl rfl)
      refine Ok.test (b := t5) rfl (fun hb7 => ?_) (fun hb7 => ?_)
      · replace H := ifT H hb7
        refine Ok.seq ?_
        refine Ok.region (σ' := ⟨[(2, (S ([114, 101, 102] : Str))), (3, (.v (.int .i64 4)))], []⟩) ?_ ?_
        · refine .cv (VOk.asg (d := (S ([114, 101, 102] : Str))) rfl rfl) rfl rfl ?_
          refine .cv (VOk.asg (d := (.v (.int .i64 4))) rfl rfl) rfl rfl ?_
          exact .done (.rf rfl rfl)
        refine Ok.ret ?_
        obtain rfl := Option.some.inj H
        exact ⟨.inl rfl, ⟨_, (.cons (.tmp rfl) (.cons (.tmp rfl) .nil)), rfl⟩, trivial⟩
      · replace H := ifF H hb7
        refine Ok.skip ?_
        refine Ok.seq ?_
        refine Ok.region (σ' := ⟨[(2, (S ([] : Str))), (3, (.v (.int .i64 0)))], []⟩) ?_ ?_
        · refine .cv (VOk.asg (d := (S ([] : Str))) rfl rfl) rfl rfl ?_
          refine .cv (VOk.asg (d := (.v (.int .i64 0))) rfl rfl) rfl rfl ?_
          exact .done (.rf rfl rfl)
        refine Ok.ret ?_
        obtain rfl := Option.some.inj H
        exact ⟨.inl rfl, ⟨_, (.cons (.tmp rfl) (.cons (.tmp rfl) .nil)), rfl⟩, trivial⟩

/-! watchbill/lists.plain: function 82 -/
def lists_plain (k : Nat) (a0 : T_api_Node) : Option (T_api_Entry × Bool) := ((lists_attr a0).bind fun (t1 : Str × Int) => ((tree_Get k a0 (T_api_Name.mk ([] : Str) t1.1)).bind fun (t3 : Str × Bool) => ((lists_kids k a0).bind fun (t5 : (List T_api_Node) × Bool) => (if ((((t1.2 == 0) || (t3.1 == ([] : Str))) || (!t5.2)) || (decide ((t5.1.length : Int) > 1))) = true then some ((T_api_Entry.mk 0 ([] : Str) ([] : Str) ([] : List T_api_Entry)), false) else (if ((t5.1.length : Int) == 1) = true then (if (0 : Int) ≤ 0 ∧ 0 < (t5.1.length : Int) then ((lists_display k (rd t5.1 0)).bind fun (t14 : Str × Bool) => (if (!t14.2) = true then some ((T_api_Entry.mk 0 ([] : Str) ([] : Str) ([] : List T_api_Entry)), false) else (if (t1.2 == 1) = true then some ((T_api_Entry.mk ((T_api_Entry.mk t1.2 t3.1 ([] : Str) ([] : List T_api_Entry)).Kind) ((T_api_Entry.mk t1.2 t3.1 ([] : Str) ([] : List T_api_Entry)).URI) t14.1 ((T_api_Entry.mk t1.2 t3.1 ([] : Str) ([] : List T_api_Entry)).List_)), true) else some ((T_api_Entry.mk t1.2 t3.1 ([] : Str) ([] : List T_api_Entry)), true)))) else none) else some ((T_api_Entry.mk t1.2 t3.1 ([] : Str) ([] : List T_api_Entry)), true))))))
theorem lists_plain.ok {k : Nat} {a0 : T_api_Node} {r : T_api_Entry × Bool} (H : lists_plain k a0 = some r) : Vx.Fn Try.prog 82 [(.agg (e_api_Node a0))] [] (.tup [(.agg (e_api_Entry r.1)), (.v (.bool r.2))]) [] := by
  unfold lists_plain at H
  refine Vx.Fn.of_okR Try.func82 rfl (Nat.le_of_ble_eq_true rfl) ?_
  refine Ok.seq ?_
  refine Ok.region (σ' := ⟨[(1, (.bref 1 0)), (2, (.bref 2 0))], [(1, (.box .ex (c_api_Node a0))), (2, (.box .ex [(.v (.int .i64 0)), (S ([] : Str)), (S ([] : Str)), (L 4 e_api_Entry ([] : List T_api_Entry))]))]⟩) ?_ ?_
  · refine OpsOk.cut1 0 (.agg [(.v (.int .i64 a0.Kind)), (S a0.Name.Space), (S a0.Name.Local), (L 3 e_api_Attr a0.Attrs), (L 6 e_api_Node a0.Kids), (S a0.Text)]) (DLe.of_eq (congrArg D.agg (e_api_Node_c _).symm)) ?_
    refine OpsOk.cons rfl (OpOk.box 1 (cells := [(.v (.int .i64 a0.Kind)), (S a0.Name.Space), (S a0.Name.Local), (L 3 e_api_Attr a0.Attrs), (L 6 e_api_Node a0.Kids), (S a0.Text)]) rfl rfl rfl rfl) ?_
    refine OpsOk.cons rfl (OpOk.alloc 2 [none, none, none, some 4] rfl zo56 rfl rfl) ?_
    refine .cv (VOk.asg (d := (.v (.bool false))) rfl rfl) rfl rfl ?_
    exact .done (.rf rfl rfl)
  refine Ok.seq ?_
  obtain ⟨t1, h2, H⟩ := bindE H
  refine Ok.region (σ' := ⟨[(1, (.bref 1 0)), (2, (.bref 2 0)), (4, (S t1.1)), (5, (.v (.int .i64 t1.2)))], [(1, (.box .ex (c_api_Node a0))), (2, (.box .ex [(.v (.int .i64 0)), (S ([] : Str)), (S ([] : Str)), (L 4 e_api_Entry ([] : List T_api_Entry))]))]⟩) ?_ ?_
  · refine .cv (VOk.to (d' := (.agg (e_api_Node a0))) (.loadBAgg rfl Try.underlying27 rfl sz27 rfl rfl rfl) (congrArg D.agg (e_api_Node_c a0).symm)) rfl rfl ?_
    refine .cg (GOk.call rfl rfl cl85 rfl (lists_attr.ok h2) rfl) rfl rfl ?_
    refine .cv (VOk.mv (d := (.tup [(S t1.1), (.v (.int .i64 t1.2))])) rfl rfl) rfl rfl ?_
    refine .cv (VOk.extract (d := (S t1.1)) rfl rfl rfl) rfl rfl ?_
    refine .cv (VOk.extract (d := (.v (.int .i64 t1.2))) rfl rfl rfl) rfl rfl ?_
    refine .cv (VOk.asg (d := (S t1.1)) rfl rfl) rfl rfl ?_
    refine .cv (VOk.asg (d := (.v (.int .i64 t1.2))) rfl rfl) rfl rfl ?_
    exact .done (.rf rfl rfl)
  refine Ok.seq ?_
  obtain ⟨t3, h4, H⟩ := bindE H
  refine Ok.region (σ' := ⟨[(1, (.bref 1 0)), (2, (.bref 2 0)), (5, (.v (.int .i64 t1.2))), (6, (S t3.1))], [(1, (.box .ex (c_api_Node a0))), (2, (.box .ex [(.v (.int .i64 0)), (S ([] : Str)), (S ([] : Str)), (L 4 e_api_Entry ([] : List T_api_Entry))]))]⟩) ?_ ?_
  · refine .cv (VOk.to (d' := (.agg (e_api_Node a0))) (.loadBAgg rfl Try.underlying27 rfl sz27 rfl rfl rfl) (congrArg D.agg (e_api_Node_c a0).symm)) rfl rfl ?_
    refine .cv (VOk.mv (d := (S t1.1)) rfl rfl) rfl rfl ?_
    refine .cv (VOk.to (d' := (.agg (e_api_Name (T_api_Name.mk ([] : Str) t1.1)))) (.build [none, none] [(0, 1), (1, 1)] rfl Try.underlying23 (fa23 Try.underlying23) zo23 rfl rfl) rfl) rfl rfl ?_
    refine .cg (GOk.call rfl rfl cl47 rfl (tree_Get.ok h4) rfl) rfl rfl ?_
    refine .cv (VOk.mv (d := (.tup [(S t3.1), (.v (.bool t3.2))])) rfl rfl) rfl rfl ?_
    refine .cv (VOk.extract (d := (S t3.1)) rfl rfl rfl) rfl rfl ?_
    refine .cv (VOk.extract (d := (.v (.bool t3.2))) rfl rfl rfl) rfl rfl ?_
    refine .cv (VOk.asg (d := (S t3.1)) rfl rfl) rfl rfl ?_
    refine .cv (VOk.asg (d := (.v (.bool t3.2))) rfl rfl) rfl rfl ?_
    exact .done (.rf rfl rfl)
  refine Ok.seq ?_
  obtain ⟨t5, h6, H⟩ := bindE H
  refine Ok.region (σ' := ⟨[(2, (.bref 2 0)), (5, (.v (.int .i64 t1.2))), (6, (S t3.1)), (8, (L 6 e_api_Node t5.1)), (9, (.v (.bool t5.2)))], [(2, (.box .ex [(.v (.int .i64 0)), (S ([] : Str)), (S ([] : Str)), (L 4 e_api_Entry ([] : List T_api_Entry))]))]⟩) ?_ ?_
  · refine .cv (VOk.to (d' := (.agg (e_api_Node a0))) (.loadBAgg rfl Try.underlying27 rfl sz27 rfl rfl rfl) (congrArg D.agg (e_api_Node_c a0).symm)) rfl rfl ?_
    refine .cg (GOk.call rfl rfl cl79 rfl (lists_kids.ok h6) rfl) rfl rfl ?_
    refine .cv (VOk.mv (d := (.tup [(L 6 e_api_Node t5.1), (.v (.bool t5.2))])) rfl rfl) rfl rfl ?_
    refine .cv (VOk.extract (d := (L 6 e_api_Node t5.1)) rfl rfl rfl) rfl rfl ?_
    refine .cv (VOk.extract (d := (.v (.bool t5.2))) rfl rfl rfl) rfl rfl ?_
    refine .cv (VOk.asg (d := (L 6 e_api_Node t5.1)) rfl rfl) rfl rfl ?_
    refine .cv (VOk.asg (d := (.v (.bool t5.2))) rfl rfl) rfl rfl ?_
    exact .done (.rf rfl rfl)
  refine Ok.seq ?_
  refine Ok.seq ?_
  refine Ok.region (σ' := ⟨[(2, (.bref 2 0)), (5, (.v (.int .i64 t1.2))), (6, (S t3.1)), (8, (L 6 e_api_Node t5.1)), (44, (.v (.bool ((((t1.2 == 0) || (t3.1 == ([] : Str))) || (!t5.2)) || (decide ((t5.1.length : Int) > 1))))))], [(2, (.box .ex [(.v (.int .i64 0)), (S ([] : Str)), (S ([] : Str)), (L 4 e_api_Entry ([] : List T_api_Entry))]))]⟩) ?_ ?_
  · refine .cv (VOk.mv (d := (.v (.int .i64 t1.2))) rfl rfl) rfl rfl ?_
    refine .cv (VOk.arith (op := .eql) (k := .i64) (a := t1.2) (b := 0) rfl rfl rfl rfl) rfl rfl ?_
    refine .cv (VOk.mv (d := (.v (.bool (t1.2 == 0)))) rfl rfl) rfl rfl ?_
    refine OpsOk.consI rfl rfl rfl (.one rfl) rfl (fun hw7 => (VOk.g (VOk.mv (d := (S t3.1)) rfl rfl))) ?_
    refine OpsOk.consI rfl rfl rfl (.one rfl) rfl (fun hw7 => (GOk.fr (fr' := [(33, (S t3.1))]) ⟨DLe.of_eq (cT hw7).symm, trivial⟩ (VOk.g (VOk.strOp (op := .eql) (a := t3.1) (b := ([] : Str)) rfl rfl rfl rfl)))) ?_
    refine .cv (VOk.to (VOk.pickI (b := (t1.2 == 0)) (p := true) (q := (t3.1 == ([] : Str))) rfl rfl (fun hp8 => rfl) (fun hp8 => (cT (f_beq hp8)))) (pickOr (t1.2 == 0) (t3.1 == ([] : Str)))) rfl rfl ?_
    refine .cv (VOk.mv (d := (.v (.bool ((t1.2 == 0) || (t3.1 == ([] : Str)))))) rfl rfl) rfl rfl ?_
    refine OpsOk.consI rfl rfl rfl (.one rfl) rfl (fun hw9 => (VOk.g (VOk.mv (d := (.v (.bool t5.2))) rfl rfl))) ?_
    refine OpsOk.consI rfl rfl rfl (.one rfl) rfl (fun hw9 => (GOk.fr (fr' := [(37, (.v (.bool t5.2)))]) ⟨DLe.of_eq (cT hw9).symm, trivial⟩ (VOk.g (VOk.not (b := t5.2) rfl rfl)))) ?_
    refine .cv (VOk.to (VOk.pickI (b := ((t1.2 == 0) || (t3.1 == ([] : Str)))) (p := true) (q := (!t5.2)) rfl rfl (fun hp10 => rfl) (fun hp10 => (cT (f_beq hp10)))) (pickOr ((t1.2 == 0) || (t3.1 == ([] : Str))) (!t5.2))) rfl rfl ?_
    refine .cv (VOk.mv (d := (.v (.bool (((t1.2 == 0) || (t3.1 == ([] : Str))) || (!t5.2))))) rfl rfl) rfl rfl ?_
    refine OpsOk.consI rfl rfl rfl (.one rfl) rfl (fun hw11 => (VOk.g (VOk.mv (d := (L 6 e_api_Node t5.1)) rfl rfl))) ?_
    refine OpsOk.consI rfl rfl rfl (.one rfl) rfl (fun hw11 => (GOk.fr (fr' := [(41, (L 6 e_api_Node t5.1))]) ⟨DLe.of_eq (cT hw11).symm, trivial⟩ (VOk.g (VOk.lenL (e := e_api_Node) (xs := t5.1) rfl Try.underlying25 rfl)))) ?_
    refine OpsOk.consI rfl rfl rfl (.one rfl) rfl (fun hw11 => (GOk.fr (fr' := [(42, (.v (.int .i64 (t5.1.length : Int))))]) ⟨DLe.of_eq (cT hw11).symm, trivial⟩ (VOk.g (VOk.arith (op := .gtr) (k := .i64) (a := (t5.1.length : Int)) (b := 1) rfl rfl rfl rfl)))) ?_
    refine .cv (VOk.to (VOk.pickI (b := (((t1.2 == 0) || (t3.1 == ([] : Str))) || (!t5.2))) (p := true) (q := (decide ((t5.1.length : Int) > 1))) rfl rfl (fun hp12 => rfl) (fun hp12 => (cT (f_beq hp12)))) (pickOr (((t1.2 == 0) || (t3.1 == ([] : Str))) || (!t5.2)) (decide ((t5.1.length : Int) > 1)))) rfl rfl ?_
    exact .done (.rf rfl rfl)
  refine Ok.test (b := ((((t1.2 == 0) || (t3.1 == ([] : Str))) || (!t5.2)) || (decide ((t5.1.length : Int) > 1)))) rfl (fun hb19 => ?_) (fun hb19 => ?_)
  · replace H := ifT H hb19
    refine Ok.seq ?_
    refine Ok.region (σ' := ⟨[(2, (.bref 2 0)), (3, (.v (.bool false)))], [(2, (.box .ex (c_api_Entry (T_api_Entry.mk 0 ([] : Str) ([] : Str) ([] : List T_api_Entry)))))]⟩) ?_ ?_
    · refine .cv (VOk.to (d' := (.agg (e_api_Entry (T_api_Entry.mk 0 ([] : Str) ([] : Str) ([] : List T_api_Entry))))) (.build [none, none, none, some 4] [(0, 1), (1, 1), (2, 1), (3, 1)] rfl Try.underlying56 (fa56 Try.underlying56) zo56 rfl rfl) (congrArg D.agg (e_api_Entry_c (T_api_Entry.mk 0 ([] : Str) ([] : Str) ([] : List T_api_Entry))).symm)) rfl rfl ?_
      refine OpsOk.cut1 45 (.agg [(.v (.int .i64 ((T_api_Entry.mk 0 ([] : Str) ([] : Str) ([] : List T_api_Entry)).Kind))), (S ((T_api_Entry.mk 0 ([] : Str) ([] : Str) ([] : List T_api_Entry)).URI)), (S ((T_api_Entry.mk 0 ([] : Str) ([] : Str) ([] : List T_api_Entry)).Name)), (L 4 e_api_Entry ((T_api_Entry.mk 0 ([] : Str) ([] : Str) ([] : List T_api_Entry)).List_))]) (DLe.of_eq (congrArg D.agg (e_api_Entry_c _).symm)) ?_
      refine OpsOk.cons rfl (OpOk.to (σ2 := St.put ⟨_, (2, (.box .ex (c_api_Entry (T_api_Entry.mk 0 ([] : Str) ([] : Str) ([] : List T_api_Entry))))) :: _⟩ _ .junk) (.storeB rfl sz56 rfl rfl rfl rfl rfl rfl) rfl) ?_
      refine .cv (VOk.asg (d := (.v (.bool false))) rfl rfl) rfl rfl ?_
      exact .done (.rf rfl rfl)
    refine Ok.ret ?_
    obtain rfl := Option.some.inj H
    exact ⟨.inl rfl, ⟨_, (.cons (.cell (VOk.to (d' := (.agg (e_api_Entry (T_api_Entry.mk 0 ([] : Str) ([] : Str) ([] : List T_api_Entry))))) (.loadBAgg rfl Try.underlying56 rfl sz56 rfl rfl rfl) (congrArg D.agg (e_api_Entry_c (T_api_Entry.mk 0 ([] : Str) ([] : Str) ([] : List T_api_Entry))).symm))) (.cons (.tmp rfl) .nil)), rfl⟩, trivial⟩
  · replace H := ifF H hb19
    refine Ok.skip ?_
    refine Ok.seq ?_
    refine Ok.region (σ' := ⟨[(2, (.bref 2 0)), (5, (.v (.int .i64 t1.2))), (8, (L 6 e_api_Node t5.1)), (10, (.bref 10 0))], [(2, (.box .ex [(.v (.int .i64 0)), (S ([] : Str)), (S ([] : Str)), (L 4 e_api_Entry ([] : List T_api_Entry))])), (10, (.box .ex (c_api_Entry (T_api_Entry.mk t1.2 t3.1 ([] : Str) ([] : List T_api_Entry)))))]⟩) ?_ ?_
    · refine .cv (VOk.mv (d := (.v (.int .i64 t1.2))) rfl rfl) rfl rfl ?_
      refine .cv (VOk.mv (d := (S t3.1)) rfl rfl) rfl rfl ?_
      refine .cv (VOk.to (d' := (.agg (e_api_Entry (T_api_Entry.mk t1.2 t3.1 ([] : Str) ([] : List T_api_Entry))))) (.build [none, none, none, some 4] [(0, 1), (1, 1), (2, 1), (3, 1)] rfl Try.underlying56 (fa56 Try.underlying56) zo56 rfl rfl) (congrArg D.agg (e_api_Entry_c (T_api_Entry.mk t1.2 t3.1 ([] : Str) ([] : List T_api_Entry))).symm)) rfl rfl ?_
      refine OpsOk.cons rfl (OpOk.alloc 10 [none, none, none, some 4] rfl zo56 rfl rfl) ?_
      refine OpsOk.cut1 48 (.agg [(.v (.int .i64 ((T_api_Entry.mk t1.2 t3.1 ([] : Str) ([] : List T_api_Entry)).Kind))), (S ((T_api_Entry.mk t1.2 t3.1 ([] : Str) ([] : List T_api_Entry)).URI)), (S ((T_api_Entry.mk t1.2 t3.1 ([] : Str) ([] : List T_api_Entry)).Name)), (L 4 e_api_Entry ((T_api_Entry.mk t1.2 t3.1 ([] : Str) ([] : List T_api_Entry)).List_))]) (DLe.of_eq (congrArg D.agg (e_api_Entry_c _).symm)) ?_
      refine OpsOk.cons rfl (OpOk.to (σ2 := St.put ⟨_, (10, (.box .ex (c_api_Entry (T_api_Entry.mk t1.2 t3.1 ([] : Str) ([] : List T_api_Entry))))) :: _⟩ _ .junk) (.storeB rfl sz56 rfl rfl rfl rfl rfl rfl) rfl) ?_
      exact .done (.rf rfl rfl)
    refine Ok.seq ?_
    refine Ok.seq ?_
    refine Ok.region (σ' := ⟨[(2, (.bref 2 0)), (5, (.v (.int .i64 t1.2))), (8, (L 6 e_api_Node t5.1)), (10, (.bref 10 0)), (51, (.v (.bool ((t5.1.length : Int) == 1))))], [(2, (.box .ex [(.v (.int .i64 0)), (S ([] : Str)), (S ([] : Str)), (L 4 e_api_Entry ([] : List T_api_Entry))])), (10, (.box .ex (c_api_Entry (T_api_Entry.mk t1.2 t3.1 ([] : Str) ([] : List T_api_Entry)))))]⟩) ?_ ?_
    · refine .cv (VOk.mv (d := (L 6 e_api_Node t5.1)) rfl rfl) rfl rfl ?_
      refine .cv (VOk.lenL (e := e_api_Node) (xs := t5.1) rfl Try.underlying25 rfl) rfl rfl ?_
      refine .cv (VOk.arith (op := .eql) (k := .i64) (a := (t5.1.length : Int)) (b := 1) rfl rfl rfl rfl) rfl rfl ?_
      exact .done (.rf rfl rfl)
    refine Ok.test (b := ((t5.1.length : Int) == 1)) rfl (fun hb18 => ?_) (fun hb18 => ?_)
    · replace H := ifT H hb18
      refine Ok.seq ?_
      obtain ⟨c13, H⟩ := assertE H
      obtain ⟨t14, h15, H⟩ := bindE H
      refine Ok.region (σ' := ⟨[(2, (.bref 2 0)), (5, (.v (.int .i64 t1.2))), (10, (.bref 10 0)), (11, (S t14.1)), (12, (.v (.bool t14.2)))], [(2, (.box .ex [(.v (.int .i64 0)), (S ([] : Str)), (S ([] : Str)), (L 4 e_api_Entry ([] : List T_api_Entry))])), (10, (.box .ex (c_api_Entry (T_api_Entry.mk t1.2 t3.1 ([] : Str) ([] : List T_api_Entry)))))]⟩) ?_ ?_
      · refine .cv (VOk.mv (d := (L 6 e_api_Node t5.1)) rfl rfl) rfl rfl ?_
        refine .cv (VOk.indexL (sz := 6) (e := e_api_Node) (xs := t5.1) (i := 0) rfl Try.underlying25 sz27 rfl rfl c13) rfl rfl ?_
        refine .cv (VOk.to (d' := (.agg (e_api_Node (rd t5.1 0)))) (.loadFpAgg rfl Try.underlying27 rfl sz27 rfl rfl) rfl) rfl rfl ?_
        refine .cg (GOk.call rfl rfl cl81 rfl (lists_display.ok h15) rfl) rfl rfl ?_
        refine .cv (VOk.mv (d := (.tup [(S t14.1), (.v (.bool t14.2))])) rfl rfl) rfl rfl ?_
        refine .cv (VOk.extract (d := (S t14.1)) rfl rfl rfl) rfl rfl ?_
        refine .cv (VOk.extract (d := (.v (.bool t14.2))) rfl rfl rfl) rfl rfl ?_
        refine .cv (VOk.asg (d := (S t14.1)) rfl rfl) rfl rfl ?_
        refine .cv (VOk.asg (d := (.v (.bool t14.2))) rfl rfl) rfl rfl ?_
        exact .done (.rf rfl rfl)
      refine Ok.seq ?_
      refine Ok.seq ?_
      refine Ok.region (σ' := ⟨[(2, (.bref 2 0)), (5, (.v (.int .i64 t1.2))), (10, (.bref 10 0)), (11, (S t14.1)), (60, (.v (.bool (!t14.2))))], [(2, (.box .ex [(.v (.int .i64 0)), (S ([] : Str)), (S ([] : Str)), (L 4 e_api_Entry ([] : List T_api_Entry))])), (10, (.box .ex (c_api_Entry (T_api_Entry.mk t1.2 t3.1 ([] : Str) ([] : List T_api_Entry)))))]⟩) ?_ ?_
      · refine .cv (VOk.mv (d := (.v (.bool t14.2))) rfl rfl) rfl rfl ?_
        refine .cv (VOk.not (b := t14.2) rfl rfl) rfl rfl ?_
        exact .done (.rf rfl rfl)
      refine Ok.test (b := (!t14.2)) rfl (fun hb17 => ?_) (fun hb17 => ?_)
      · replace H := ifT H hb17
        refine Ok.seq ?_
        refine Ok.region (σ' := ⟨[(2, (.bref 2 0)), (3, (.v (.bool false)))], [(2, (.box .ex (c_api_Entry (T_api_Entry.mk 0 ([] : Str) ([] : Str) ([] : List T_api_Entry)))))]⟩) ?_ ?_
        · refine .cv (VOk.to (d' := (.agg (e_api_Entry (T_api_Entry.mk 0 ([] : Str) ([] : Str) ([] : List T_api_Entry))))) (.build [none, none, none, some 4] [(0, 1), (1, 1), (2, 1), (3, 1)] rfl Try.underlying56 (fa56 Try.underlying56) zo56 rfl rfl) (congrArg D.agg (e_api_Entry_c (T_api_Entry.mk 0 ([] : Str) ([] : Str) ([] : List T_api_Entry))).symm)) rfl rfl ?_
          refine OpsOk.cut1 61 (.agg [(.v (.int .i64 ((T_api_Entry.mk 0 ([] : Str) ([] : Str) ([] : List T_api_Entry)).Kind))), (S ((T_api_Entry.mk 0 ([] : Str) ([] : Str) ([] : List T_api_Entry)).URI)), (S ((T_api_Entry.mk 0 ([] : Str) ([] : Str) ([] : List T_api_Entry)).Name)), (L 4 e_api_Entry ((T_api_Entry.mk 0 ([] : Str) ([] : Str) ([] : List T_api_Entry)).List_))]) (DLe.of_eq (congrArg D.agg (e_api_Entry_c _).symm)) ?_
          refine OpsOk.cons rfl (OpOk.to (σ2 := St.put ⟨_, (2, (.box .ex (c_api_Entry (T_api_Entry.mk 0 ([] : Str) ([] : Str) ([] : List T_api_Entry))))) :: _⟩ _ .junk) (.storeB rfl sz56 rfl rfl rfl rfl rfl rfl) rfl) ?_
          refine .cv (VOk.asg (d := (.v (.bool false))) rfl rfl) rfl rfl ?_
          exact .done (.rf rfl rfl)
        refine Ok.ret ?_
        obtain rfl := Option.some.inj H
        exact ⟨.inl rfl, ⟨_, (.cons (.cell (VOk.to (d' := (.agg (e_api_Entry (T_api_Entry.mk 0 ([] : Str) ([] : Str) ([] : List T_api_Entry))))) (.loadBAgg rfl Try.underlying56 rfl sz56 rfl rfl rfl) (congrArg D.agg (e_api_Entry_c (T_api_Entry.mk 0 ([] : Str) ([] : Str) ([] : List T_api_Entry))).symm))) (.cons (.tmp rfl) .nil)), rfl⟩, trivial⟩
      · replace H := ifF H hb17
        refine Ok.skip ?_
        refine Ok.seq ?_
        refine Ok.region (σ' := ⟨[(2, (.bref 2 0)), (10, (.bref 10 0)), (11, (S t14.1)), (63, (.v (.bool (t1.2 == 1))))], [(2, (.box .ex [(.v (.int .i64 0)), (S ([] : Str)), (S ([] : Str)), (L 4 e_api_Entry ([] : List T_api_Entry))])), (10, (.box .ex (c_api_Entry (T_api_Entry.mk t1.2 t3.1 ([] : Str) ([] : List T_api_Entry)))))]⟩) ?_ ?_
        · refine .cv (VOk.mv (d := (.v (.int .i64 t1.2))) rfl rfl) rfl rfl ?_
          refine .cv (VOk.arith (op := .eql) (k := .i64) (a := t1.2) (b := 1) rfl rfl rfl rfl) rfl rfl ?_
          exact .done (.rf rfl rfl)
        refine Ok.test (b := (t1.2 == 1)) rfl (fun hb16 => ?_) (fun hb16 => ?_)
        · replace H := ifT H hb16
          refine Ok.region (σ' := ⟨[(2, (.bref 2 0)), (10, (.bref 10 0))], [(2, (.box .ex [(.v (.int .i64 0)), (S ([] : Str)), (S ([] : Str)), (L 4 e_api_Entry ([] : List T_api_Entry))])), (10, (.box .ex [(.v (.int .i64 ((T_api_Entry.mk t1.2 t3.1 ([] : Str) ([] : List T_api_Entry)).Kind))), (S ((T_api_Entry.mk t1.2 t3.1 ([] : Str) ([] : List T_api_Entry)).URI)), (S t14.1), (L 4 e_api_Entry ((T_api_Entry.mk t1.2 t3.1 ([] : Str) ([] : List T_api_Entry)).List_))]))]⟩) ?_ ?_
          · refine .cv (VOk.mv (d := (S t14.1)) rfl rfl) rfl rfl ?_
            refine .cv (VOk.to (VOk.fieldB rfl Try.underlying56 rfl sz9 rfl rfl) rfl) rfl rfl ?_
            refine OpsOk.cons rfl (OpOk.to (σ2 := St.put ⟨_, (10, (.box .ex [(.v (.int .i64 ((T_api_Entry.mk t1.2 t3.1 ([] : Str) ([] : List T_api_Entry)).Kind))), (S ((T_api_Entry.mk t1.2 t3.1 ([] : Str) ([] : List T_api_Entry)).URI)), (S t14.1), (L 4 e_api_Entry ((T_api_Entry.mk t1.2 t3.1 ([] : Str) ([] : List T_api_Entry)).List_))])) :: _⟩ _ .junk) (.storeB rfl sz9 rfl rfl rfl rfl rfl rfl) rfl) ?_
            exact .done (.rf rfl rfl)
          refine Ok.seq ?_
          refine Ok.region (σ' := ⟨[(2, (.bref 2 0)), (3, (.v (.bool true)))], [(2, (.box .ex (c_api_Entry (T_api_Entry.mk ((T_api_Entry.mk t1.2 t3.1 ([] : Str) ([] : List T_api_Entry)).Kind) ((T_api_Entry.mk t1.2 t3.1 ([] : Str) ([] : List T_api_Entry)).URI) t14.1 ((T_api_Entry.mk t1.2 t3.1 ([] : Str) ([] : List T_api_Entry)).List_)))))]⟩) ?_ ?_
          · refine .cv (VOk.to (d' := (.agg (e_api_Entry (T_api_Entry.mk ((T_api_Entry.mk t1.2 t3.1 ([] : Str) ([] : List T_api_Entry)).Kind) ((T_api_Entry.mk t1.2 t3.1 ([] : Str) ([] : List T_api_Entry)).URI) t14.1 ((T_api_Entry.mk t1.2 t3.1 ([] : Str) ([] : List T_api_Entry)).List_))))) (.loadBAgg rfl Try.underlying56 rfl sz56 rfl rfl rfl) (congrArg D.agg (e_api_Entry_c (T_api_Entry.mk ((T_api_Entry.mk t1.2 t3.1 ([] : Str) ([] : List T_api_Entry)).Kind) ((T_api_Entry.mk t1.2 t3.1 ([] : Str) ([] : List T_api_Entry)).URI) t14.1 ((T_api_Entry.mk t1.2 t3.1 ([] : Str) ([] : List T_api_Entry)).List_))).symm)) rfl rfl ?_
            refine OpsOk.cut1 66 (.agg [(.v (.int .i64 ((T_api_Entry.mk ((T_api_Entry.mk t1.2 t3.1 ([] : Str) ([] : List T_api_Entry)).Kind) ((T_api_Entry.mk t1.2 t3.1 ([] : Str) ([] : List T_api_Entry)).URI) t14.1 ((T_api_Entry.mk t1.2 t3.1 ([] : Str) ([] : List T_api_Entry)).List_)).Kind))), (S ((T_api_Entry.mk ((T_api_Entry.mk t1.2 t3.1 ([] : Str) ([] : List T_api_Entry)).Kind) ((T_api_Entry.mk t1.2 t3.1 ([] : Str) ([] : List T_api_Entry)).URI) t14.1 ((T_api_Entry.mk t1.2 t3.1 ([] : Str) ([] : List T_api_Entry)).List_)).URI)), (S ((T_api_Entry.mk ((T_api_Entry.mk t1.2 t3.1 ([] : Str) ([] : List T_api_Entry)).Kind) ((T_api_Entry.mk t1.2 t3.1 ([] : Str) ([] : List T_api_Entry)).URI) t14.1 ((T_api_Entry.mk t1.2 t3.1 ([] : Str) ([] : List T_api_Entry)).List_)).Name)), (L 4 e_api_Entry ((T_api_Entry.mk ((T_api_Entry.mk t1.2 t3.1 ([] : Str) ([] : List T_api_Entry)).Kind) ((T_api_Entry.mk t1.2 t3.1 ([] : Str) ([] : List T_api_Entry)).URI) t14.1 ((T_api_Entry.mk t1.2 t3.1 ([] : Str) ([] : List T_api_Entry)).List_)).List_))]) (DLe.of_eq (congrArg D.agg (e_api_Entry_c _).symm)) ?_
            refine OpsOk.cons rfl (OpOk.to (σ2 := St.put ⟨_, (2, (.box .ex (c_api_Entry (T_api_Entry.mk ((T_api_Entry.mk t1.2 t3.1 ([] : Str) ([] : List T_api_Entry)).Kind) ((T_api_Entry.mk t1.2 t3.1 ([] : Str) ([] : List T_api_Entry)).URI) t14.1 ((T_api_Entry.mk t1.2 t3.1 ([] : Str) ([] : List T_api_Entry)).List_))))) :: _⟩ _ .junk) (.storeB rfl sz56 rfl rfl rfl rfl rfl rfl) rfl) ?_
            refine .cv (VOk.asg (d := (.v (.bool true))) rfl rfl) rfl rfl ?_
            exact .done (.rf rfl rfl)
          refine Ok.ret ?_
          obtain rfl := Option.some.inj H
          exact ⟨.inl rfl, ⟨_, (.cons (.cell (VOk.to (d' := (.agg (e_api_Entry (T_api_Entry.mk ((T_api_Entry.mk t1.2 t3.1 ([] : Str) ([] : List T_api_Entry)).Kind) ((T_api_Entry.mk t1.2 t3.1 ([] : Str) ([] : List T_api_Entry)).URI) t14.1 ((T_api_Entry.mk t1.2 t3.1 ([] : Str) ([] : List T_api_Entry)).List_))))) (.loadBAgg rfl Try.underlying56 rfl sz56 rfl rfl rfl) (congrArg D.agg (e_api_Entry_c (T_api_Entry.mk ((T_api_Entry.mk t1.2 t3.1 ([] : Str) ([] : List T_api_Entry)).Kind) ((T_api_Entry.mk t1.2 t3.1 ([] : Str) ([] : List T_api_Entry)).URI) t14.1 ((T_api_Entry.mk t1.2 t3.1 ([] : Str) ([] : List T_api_Entry)).List_))).symm))) (.cons (.tmp rfl) .nil)), rfl⟩, trivial⟩
        · replace H := ifF H hb16
          refine Ok.skip ?_
          refine Ok.seq ?_
          refine Ok.region (σ' := ⟨[(2, (.bref 2 0)), (3, (.v (.bool true)))], [(2, (.box .ex (c_api_Entry (T_api_Entry.mk t1.2 t3.1 ([] : Str) ([] : List T_api_Entry)))))]⟩) ?_ ?_
          · refine .cv (VOk.to (d' := (.agg (e_api_Entry (T_api_Entry.mk t1.2 t3.1 ([] : Str) ([] : List T_api_Entry))))) (.loadBAgg rfl Try.underlying56 rfl sz56 rfl rfl rfl) (congrArg D.agg (e_api_Entry_c (T_api_Entry.mk t1.2 t3.1 ([] : Str) ([] : List T_api_Entry))).symm)) rfl rfl ?_
            refine OpsOk.cut1 66 (.agg [(.v (.int .i64 ((T_api_Entry.mk t1.2 t3.1 ([] : Str) ([] : List T_api_Entry)).Kind))), (S ((T_api_Entry.mk t1.2 t3.1 ([] : Str) ([] : List T_api_Entry)).URI)), (S ((T_api_Entry.mk t1.2 t3.1 ([] : Str) ([] : List T_api_Entry)).Name)), (L 4 e_api_Entry ((T_api_Entry.mk t1.2 t3.1 ([] : Str) ([] : List T_api_Entry)).List_))]) (DLe.of_eq (congrArg D.agg (e_api_Entry_c _).symm)) ?_
            refine OpsOk.cons rfl (OpOk.to (σ2 := St.put ⟨_, (2, (.box .ex (c_api_Entry (T_api_Entry.mk t1.2 t3.1 ([] : Str) ([] : List T_api_Entry))))) :: _⟩ _ .junk) (.storeB rfl sz56 rfl rfl rfl rfl rfl rfl) rfl) ?_
            refine .cv (VOk.asg (d := (.v (.bool true))) rfl rfl) rfl rfl ?_
            exact .done (.rf rfl rfl)
          refine Ok.ret ?_
          obtain rfl := Option.some.inj H
          exact ⟨.inl rfl, ⟨_, (.cons (.cell (VOk.to (d' := (.agg (e_api_Entry (T_api_Entry.mk t1.2 t3.1 ([] : Str) ([] : List T_api_Entry))))) (.loadBAgg rfl Try.underlying56 rfl sz56 rfl rfl rfl) (congrArg D.agg (e_api_Entry_c (T_api_Entry.mk t1.2 t3.1 ([] : Str) ([] : List T_api_Entry))).symm))) (.cons (.tmp rfl) .nil)), rfl⟩, trivial⟩
    · replace H := ifF H hb18
      refine Ok.skip ?_
      refine Ok.seq ?_
      refine Ok.region (σ' := ⟨[(2, (.bref 2 0)), (3, (.v (.bool true)))], [(2, (.box .ex (c_api_Entry (T_api_Entry.mk t1.2 t3.1 ([] : Str) ([] : List T_api_Entry)))))]⟩) ?_ ?_
      · refine .cv (VOk.to (d' := (.agg (e_api_Entry (T_api_Entry.mk t1.2 t3.1 ([] : Str) ([] : List T_api_Entry))))) (.loadBAgg rfl Try.underlying56 rfl sz56 rfl rfl rfl) (congrArg D.agg (e_api_Entry_c (T_api_Entry.mk t1.2 t3.1 ([] : Str) ([] : List T_api_Entry))).symm)) rfl rfl ?_
        refine OpsOk.cut1 66 (.agg [(.v (.int .i64 ((T_api_Entry.mk t1.2 t3.1 ([] : Str) ([] : List T_api_Entry)).Kind))), (S ((T_api_Entry.mk t1.2 t3.1 ([] : Str) ([] : List T_api_Entry)).URI)), (S ((T_api_Entry.mk t1.2 t3.1 ([] : Str) ([] : List T_api_Entry)).Name)), (L 4 e_api_Entry ((T_api_Entry.mk t1.2 t3.1 ([] : Str) ([] : List T_api_Entry)).List_))]) (DLe.of_eq (congrArg D.agg (e_api_Entry_c _).symm)) ?_
        refine OpsOk.cons rfl (OpOk.to (σ2 := St.put ⟨_, (2, (.box .ex (c_api_Entry (T_api_Entry.mk t1.2 t3.1 ([] : Str) ([] : List T_api_Entry))))) :: _⟩ _ .junk) (.storeB rfl sz56 rfl rfl rfl rfl rfl rfl) rfl) ?_
        refine .cv (VOk.asg (d := (.v (.bool true))) rfl rfl) rfl rfl ?_
        exact .done (.rf rfl rfl)
      refine Ok.ret ?_
      obtain rfl := Option.some.inj H
      exact ⟨.inl rfl, ⟨_, (.cons (.cell (VOk.to (d' := (.agg (e_api_Entry (T_api_Entry.mk t1.2 t3.1 ([] : Str) ([] : List T_api_Entry))))) (.loadBAgg rfl Try.underlying56 rfl sz56 rfl rfl rfl) (congrArg D.agg (e_api_Entry_c (T_api_Entry.mk t1.2 t3.1 ([] : Str) ([] : List T_api_Entry))).symm))) (.cons (.tmp rfl) .nil)), rfl⟩, trivial⟩

/-! watchbill/lists.list: function 71 -/
def lists_list.j1 (k : Nat) (self : T_api_Node → Option (T_api_Entry × Bool)) (c0 : Int → Str → Str → List T_api_Entry → Int → Str → Str → List T_api_Entry → Int → Option (T_api_Entry × Bool)) (x4_9 : List T_api_Node) (y2_0_11 : Int) (y2_1_12 : Str) (y2_2_13 : Str) (y2_3_14 : List T_api_Entry) (y6_0_15 : Int) (y6_1_16 : Str) (y6_2_17 : Str) (y1123_18 : List T_api_Entry) (x58_10 : Int) (x11_30 : Nat) : Option (T_api_Entry × Bool) := (((if x11_30 = 71 then self (rd x4_9 x58_10) else (if x11_30 = 82 then lists_plain k (rd x4_9 x58_10) else none))).bind fun (t31 : T_api_Entry × Bool) => (if (!t31.2) = true then some ((T_api_Entry.mk 0 ([] : Str) ([] : Str) ([] : List T_api_Entry)), false) else (if (y1123_18.length + ([t31.1] : List T_api_Entry).length) * 64 ≤ 140737488355328 then c0 y2_0_11 y2_1_12 y2_2_13 y2_3_14 y6_0_15 y6_1_16 y6_2_17 (y1123_18 ++ ([t31.1] : List T_api_Entry)) (IntKind.i64.wrap (x58_10 + 1)) else none)))
def lists_list.l0 (k : Nat) (self : T_api_Node → Option (T_api_Entry × Bool)) (x4_9 : List T_api_Node) : Nat → Int → Str → Str → List T_api_Entry → Int → Str → Str → List T_api_Entry → Int → Option (T_api_Entry × Bool)
  | 0, _, _, _, _, _, _, _, _, _ => none
  | m28 + 1, y2_0_11, y2_1_12, y2_2_13, y2_3_14, y6_0_15, y6_1_16, y6_2_17, y1123_18, x58_10 => (if (decide (x58_10 < (x4_9.length : Int))) = true then (if (0 : Int) ≤ x58_10 ∧ x58_10 < (x4_9.length : Int) then ((lists_is (rd x4_9 x58_10) ([108, 105, 115, 116] : Str)).bind fun (t35 : Bool) => (if t35 = true then lists_list.j1 k self (lists_list.l0 k self x4_9 m28) x4_9 y2_0_11 y2_1_12 y2_2_13 y2_3_14 y6_0_15 y6_1_16 y6_2_17 y1123_18 x58_10 71 else lists_list.j1 k self (lists_list.l0 k self x4_9 m28) x4_9 y2_0_11 y2_1_12 y2_2_13 y2_3_14 y6_0_15 y6_1_16 y6_2_17 y1123_18 x58_10 82)) else none) else some ((T_api_Entry.mk y6_0_15 y6_1_16 y6_2_17 y1123_18), true))
def lists_list.j2 (k : Nat) (self : T_api_Node → Option (T_api_Entry × Bool)) (t7 : Str × Bool) (x4_9 : List T_api_Node) : Option (T_api_Entry × Bool) := lists_list.l0 k self x4_9 k 0 ([] : Str) ([] : Str) ([] : List T_api_Entry) 2 ([] : Str) t7.1 ([] : List T_api_Entry) 0
def lists_list : Nat → T_api_Node → Option (T_api_Entry × Bool)
  | 0, _ => none
  | k + 1, a0 => ((lists_kids k a0).bind fun (t1 : (List T_api_Node) × Bool) => (((if ((!t1.2) == false) = true then lists_is a0 ([108, 105, 115, 116] : Str) else some default)).bind fun (t4 : Bool) => (if ((!t1.2) || (!t4)) = true then some ((T_api_Entry.mk 0 ([] : Str) ([] : Str) ([] : List T_api_Entry)), false) else ((tree_Get k a0 (T_api_Name.mk ([] : Str) ([110, 97, 109, 101] : Str))).bind fun (t7 : Str × Bool) => (if (((decide ((t1.1.length : Int) > 0)) == true) = true → (0 : Int) ≤ 0 ∧ 0 < (t1.1.length : Int)) then (((if ((decide ((t1.1.length : Int) > 0)) == true) = true then lists_is (rd t1.1 0) ([100, 105, 115, 112, 108, 97, 121, 45, 110, 97, 109, 101] : Str) else some default)).bind fun (t41 : Bool) => (if ((decide ((t1.1.length : Int) > 0)) && t41) = true then (if (0 : Int) ≤ 0 ∧ 0 < (t1.1.length : Int) then ((lists_display k (rd t1.1 0)).bind fun (t45 : Str × Bool) => (if (!t45.2) = true then some ((T_api_Entry.mk 0 ([] : Str) ([] : Str) ([] : List T_api_Entry)), false) else (if (0 : Int) ≤ 1 ∧ (1 : Int) ≤ (t1.1.length : Int) ∧ (t1.1.length : Int) ≤ (t1.1.length : Int) then lists_list.j2 k (lists_list k) t7 (sl t1.1 1 (t1.1.length : Int)) else none))) else none) else lists_list.j2 k (lists_list k) t7 t1.1)) else none)))))
theorem lists_list.ok {k : Nat} {a0 : T_api_Node} {r : T_api_Entry × Bool} (H : lists_list k a0 = some r) : Vx.Fn Try.prog 71 [(.agg (e_api_Node a0))] [] (.tup [(.agg (e_api_Entry r.1)), (.v (.bool r.2))]) [] := by
  induction k generalizing a0 r with
  | zero => exact absurd H (by simp [lists_list])
  | succ k ih =>
    unfold lists_list at H
    refine Vx.Fn.of_okR Try.func71 rfl (Nat.le_of_ble_eq_true rfl) ?_
    refine Ok.seq ?_
    refine Ok.region (σ' := ⟨[(1, (.bref 1 0)), (2, (.bref 2 0))], [(1, (.box .ex (c_api_Node a0))), (2, (.box .ex [(.v (.int .i64 0)), (S ([] : Str)), (S ([] : Str)), (L 4 e_api_Entry ([] : List T_api_Entry))]))]⟩) ?_ ?_
    · refine OpsOk.cut1 0 (.agg [(.v (.int .i64 a0.Kind)), (S a0.Name.Space), (S a0.Name.Local), (L 3 e_api_Attr a0.Attrs), (L 6 e_api_Node a0.Kids), (S a0.Text)]) (DLe.of_eq (congrArg D.agg (e_api_Node_c _).symm)) ?_
      refine OpsOk.cons rfl (OpOk.box 1 (cells := [(.v (.int .i64 a0.Kind)), (S a0.Name.Space), (S a0.Name.Local), (L 3 e_api_Attr a0.Attrs), (L 6 e_api_Node a0.Kids), (S a0.Text)]) rfl rfl rfl rfl) ?_
      refine OpsOk.cons rfl (OpOk.alloc 2 [none, none, none, some 4] rfl zo56 rfl rfl) ?_
      refine .cv (VOk.asg (d := (.v (.bool false))) rfl rfl) rfl rfl ?_
      exact .done (.rf rfl rfl)
    refine Ok.seq ?_
    obtain ⟨t1, h2, H⟩ := bindE H
    refine Ok.region (σ' := ⟨[(1, (.bref 1 0)), (2, (.bref 2 0)), (4, (L 6 e_api_Node t1.1)), (5, (.v (.bool t1.2)))], [(1, (.box .ex (c_api_Node a0))), (2, (.box .ex [(.v (.int .i64 0)), (S ([] : Str)), (S ([] : Str)), (L 4 e_api_Entry ([] : List T_api_Entry))]))]⟩) ?_ ?_
    · refine .cv (VOk.to (d' := (.agg (e_api_Node a0))) (.loadBAgg rfl Try.underlying27 rfl sz27 rfl rfl rfl) (congrArg D.agg (e_api_Node_c a0).symm)) rfl rfl ?_
      refine .cg (GOk.call rfl rfl cl79 rfl (lists_kids.ok h2) rfl) rfl rfl ?_
      refine .cv (VOk.mv (d := (.tup [(L 6 e_api_Node t1.1), (.v (.bool t1.2))])) rfl rfl) rfl rfl ?_
      refine .cv (VOk.extract (d := (L 6 e_api_Node t1.1)) rfl rfl rfl) rfl rfl ?_
      refine .cv (VOk.extract (d := (.v (.bool t1.2))) rfl rfl rfl) rfl rfl ?_
      refine .cv (VOk.asg (d := (L 6 e_api_Node t1.1)) rfl rfl) rfl rfl ?_
      refine .cv (VOk.asg (d := (.v (.bool t1.2))) rfl rfl) rfl rfl ?_
      exact .done (.rf rfl rfl)
    refine Ok.seq ?_
    refine Ok.seq ?_
    obtain ⟨t4, h5, H⟩ := bindE H
    refine Ok.region (σ' := ⟨[(1, (.bref 1 0)), (2, (.bref 2 0)), (4, (L 6 e_api_Node t1.1)), (25, (.v (.bool ((!t1.2) || (!t4)))))], [(1, (.box .ex (c_api_Node a0))), (2, (.box .ex [(.v (.int .i64 0)), (S ([] : Str)), (S ([] : Str)), (L 4 e_api_Entry ([] : List T_api_Entry))]))]⟩) ?_ ?_
    · refine .cv (VOk.mv (d := (.v (.bool t1.2))) rfl rfl) rfl rfl ?_
      refine .cv (VOk.not (b := t1.2) rfl rfl) rfl rfl ?_
      refine .cv (VOk.mv (d := (.v (.bool (!t1.2)))) rfl rfl) rfl rfl ?_
      refine OpsOk.consI rfl rfl rfl (.one rfl) rfl (fun hw3 => (VOk.g (VOk.to (d' := (.agg (e_api_Node a0))) (.loadBAgg rfl Try.underlying27 rfl sz27 rfl rfl rfl) (congrArg D.agg (e_api_Node_c a0).symm)))) ?_
      refine OpsOk.consI rfl rfl rfl (.one rfl) rfl (fun hw3 => (GOk.fr (fr' := [(22, (.agg (e_api_Node a0)))]) ⟨DLe.of_eq (cT hw3).symm, trivial⟩ (GOk.call rfl rfl cl80 rfl (lists_is.ok (ifT h5 hw3)) rfl))) ?_
      refine OpsOk.consI rfl rfl rfl (.one rfl) rfl (fun hw3 => (GOk.fr (fr' := [(23, (.v (.bool t4)))]) ⟨DLe.of_eq (cT hw3).symm, trivial⟩ (VOk.g (VOk.not (b := t4) rfl rfl)))) ?_
      refine .cv (VOk.to (VOk.pickI (b := (!t1.2)) (p := true) (q := (!t4)) rfl rfl (fun hp6 => rfl) (fun hp6 => (cT (f_beq hp6)))) (pickOr (!t1.2) (!t4))) rfl rfl ?_
      exact .done (.rf rfl rfl)
    refine Ok.test (b := ((!t1.2) || (!t4))) rfl (fun hb50 => ?_) (fun hb50 => ?_)
    · replace H := ifT H hb50
      refine Ok.seq ?_
      refine Ok.region (σ' := ⟨[(2, (.bref 2 0)), (3, (.v (.bool false)))], [(2, (.box .ex (c_api_Entry (T_api_Entry.mk 0 ([] : Str) ([] : Str) ([] : List T_api_Entry)))))]⟩) ?_ ?_
      · refine .cv (VOk.to (d' := (.agg (e_api_Entry (T_api_Entry.mk 0 ([] : Str) ([] : Str) ([] : List T_api_Entry))))) (.build [none, none, none, some 4] [(0, 1), (1, 1), (2, 1), (3, 1)] rfl Try.underlying56 (fa56 Try.underlying56) zo56 rfl rfl) (congrArg D.agg (e_api_Entry_c (T_api_Entry.mk 0 ([] : Str) ([] : Str) ([] : List T_api_Entry))).symm)) rfl rfl ?_
        refine OpsOk.cut1 26 (.agg [(.v (.int .i64 ((T_api_Entry.mk 0 ([] : Str) ([] : Str) ([] : List T_api_Entry)).Kind))), (S ((T_api_Entry.mk 0 ([] : Str) ([] : Str) ([] : List T_api_Entry)).URI)), (S ((T_api_Entry.mk 0 ([] : Str) ([] : Str) ([] : List T_api_Entry)).Name)), (L 4 e_api_Entry ((T_api_Entry.mk 0 ([] : Str) ([] : Str) ([] : List T_api_Entry)).List_))]) (DLe.of_eq (congrArg D.agg (e_api_Entry_c _).symm)) ?_
        refine OpsOk.cons rfl (OpOk.to (σ2 := St.put ⟨_, (2, (.box .ex (c_api_Entry (T_api_Entry.mk 0 ([] : Str) ([] : Str) ([] : List T_api_Entry))))) :: _⟩ _ .junk) (.storeB rfl sz56 rfl rfl rfl rfl rfl rfl) rfl) ?_
        refine .cv (VOk.asg (d := (.v (.bool false))) rfl rfl) rfl rfl ?_
        exact .done (.rf rfl rfl)
      refine Ok.ret ?_
      obtain rfl := Option.some.inj H
      exact ⟨.inl rfl, ⟨_, (.cons (.cell (VOk.to (d' := (.agg (e_api_Entry (T_api_Entry.mk 0 ([] : Str) ([] : Str) ([] : List T_api_Entry))))) (.loadBAgg rfl Try.underlying56 rfl sz56 rfl rfl rfl) (congrArg D.agg (e_api_Entry_c (T_api_Entry.mk 0 ([] : Str) ([] : Str) ([] : List T_api_Entry))).symm))) (.cons (.tmp rfl) .nil)), rfl⟩, trivial⟩
    · replace H := ifF H hb50
      refine Ok.skip ?_
      refine Ok.seq ?_
      refine Ok.region (σ' := ⟨[(1, (.bref 1 0)), (2, (.bref 2 0)), (4, (L 6 e_api_Node t1.1)), (6, (.bref 6 0))], [(1, (.box .ex (c_api_Node a0))), (2, (.box .ex [(.v (.int .i64 0)), (S ([] : Str)), (S ([] : Str)), (L 4 e_api_Entry ([] : List T_api_Entry))])), (6, (.box .ex [(.v (.int .i64 2)), (S ([] : Str)), (S ([] : Str)), (.sref 1123)])), (1123, (.rows true 56 4 (([] : List T_api_Entry).map e_api_Entry)))]⟩) ?_ ?_
      · refine .cv (VOk.to (d' := (.agg [(.v (.int .i64 2)), (S ([] : Str)), (S ([] : Str)), (.v (.slice none 0 0))])) (.build [none, none, none, none] [(0, 1), (1, 1), (2, 1), (3, 1)] rfl Try.underlying56 (fa56 Try.underlying56) zo56 rfl rfl) rfl) rfl rfl ?_
        refine OpsOk.cons rfl (OpOk.alloc 6 [none, none, none, none] rfl zo56 rfl rfl) ?_
        refine OpsOk.sle (SLe.adopt 6 1123 3 56 4 rfl rfl rfl rfl rfl) ?_
        refine OpsOk.cons rfl (OpOk.to (σ2 := St.put ⟨_, (6, (.box .ex [(.v (.int .i64 2)), (S ([] : Str)), (S ([] : Str)), (.v (.slice none 0 0))])) :: _⟩ _ .junk) (.storeB rfl sz56 rfl rfl rfl rfl rfl rfl) rfl) ?_
        refine OpsOk.sle (SLe.adopt 6 1123 3 56 4 rfl rfl rfl rfl rfl) ?_
        exact .done (.rf rfl rfl)
      refine Ok.seq ?_
      obtain ⟨t7, h8, H⟩ := bindE H
      refine Ok.region (σ' := ⟨[(2, (.bref 2 0)), (4, (L 6 e_api_Node t1.1)), (6, (.bref 6 0))], [(2, (.box .ex [(.v (.int .i64 0)), (S ([] : Str)), (S ([] : Str)), (L 4 e_api_Entry ([] : List T_api_Entry))])), (6, (.box .ex [(.v (.int .i64 2)), (S ([] : Str)), (S t7.1), (.sref 1123)])), (1123, (.rows true 56 4 (([] : List T_api_Entry).map e_api_Entry)))]⟩) ?_ ?_
      · refine .cv (VOk.to (d' := (.agg (e_api_Node a0))) (.loadBAgg rfl Try.underlying27 rfl sz27 rfl rfl rfl) (congrArg D.agg (e_api_Node_c a0).symm)) rfl rfl ?_
        refine .cv (VOk.to (d' := (.agg (e_api_Name (T_api_Name.mk ([] : Str) ([110, 97, 109, 101] : Str))))) (.build [none, none] [(0, 1), (1, 1)] rfl Try.underlying23 (fa23 Try.underlying23) zo23 rfl rfl) rfl) rfl rfl ?_
        refine .cg (GOk.call rfl rfl cl47 rfl (tree_Get.ok h8) rfl) rfl rfl ?_
        refine .cv (VOk.mv (d := (.tup [(S t7.1), (.v (.bool t7.2))])) rfl rfl) rfl rfl ?_
        refine .cv (VOk.extract (d := (S t7.1)) rfl rfl rfl) rfl rfl ?_
        refine .cv (VOk.extract (d := (.v (.bool t7.2))) rfl rfl rfl) rfl rfl ?_
        refine .cv (VOk.to (VOk.fieldB rfl Try.underlying56 rfl sz9 rfl rfl) rfl) rfl rfl ?_
        refine OpsOk.cons rfl (OpOk.to (σ2 := St.put ⟨_, (6, (.box .ex [(.v (.int .i64 2)), (S ([] : Str)), (S t7.1), (.sref 1123)])) :: _⟩ _ .junk) (.storeB rfl sz9 rfl rfl rfl rfl rfl rfl) rfl) ?_
        exact .done (.rf rfl rfl)
      refine Ok.meet (fun σ => ∃ (x4_9 : List T_api_Node), σ = ⟨[(2, (.bref 2 0)), (4, (L 6 e_api_Node x4_9)), (6, (.bref 6 0))], [(2, (.box .ex [(.v (.int .i64 0)), (S ([] : Str)), (S ([] : Str)), (L 4 e_api_Entry ([] : List T_api_Entry))])), (6, (.box .ex [(.v (.int .i64 2)), (S ([] : Str)), (S t7.1), (.sref 1123)])), (1123, (.rows true 56 4 (([] : List T_api_Entry).map e_api_Entry)))]⟩ ∧ lists_list.j2 k (lists_list k) t7 x4_9 = some r) ?_ ?_
      · refine Ok.seq ?_
        obtain ⟨c40, H⟩ := assertE H
        obtain ⟨t41, h42, H⟩ := bindE H
        refine Ok.region (σ' := ⟨[(2, (.bref 2 0)), (4, (L 6 e_api_Node t1.1)), (6, (.bref 6 0)), (43, (.v (.bool ((decide ((t1.1.length : Int) > 0)) && t41))))], [(2, (.box .ex [(.v (.int .i64 0)), (S ([] : Str)), (S ([] : Str)), (L 4 e_api_Entry ([] : List T_api_Entry))])), (6, (.box .ex [(.v (.int .i64 2)), (S ([] : Str)), (S t7.1), (.sref 1123)])), (1123, (.rows true 56 4 (([] : List T_api_Entry).map e_api_Entry)))]⟩) ?_ ?_
        · refine .cv (VOk.mv (d := (L 6 e_api_Node t1.1)) rfl rfl) rfl rfl ?_
          refine .cv (VOk.lenL (e := e_api_Node) (xs := t1.1) rfl Try.underlying25 rfl) rfl rfl ?_
          refine .cv (VOk.arith (op := .gtr) (k := .i64) (a := (t1.1.length : Int)) (b := 0) rfl rfl rfl rfl) rfl rfl ?_
          refine .cv (VOk.mv (d := (.v (.bool (decide ((t1.1.length : Int) > 0))))) rfl rfl) rfl rfl ?_
          refine OpsOk.consI rfl rfl rfl (.one rfl) rfl (fun hw39 => (VOk.g (VOk.mv (d := (L 6 e_api_Node t1.1)) rfl rfl))) ?_
          refine OpsOk.consI rfl rfl rfl (.one rfl) rfl (fun hw39 => (GOk.fr (fr' := [(39, (L 6 e_api_Node t1.1))]) ⟨DLe.of_eq (cT hw39).symm, trivial⟩ (VOk.g (VOk.indexL (sz := 6) (e := e_api_Node) (xs := t1.1) (i := 0) rfl Try.underlying25 sz27 rfl rfl (c40 hw39))))) ?_
          refine OpsOk.consI rfl rfl rfl (.one rfl) rfl (fun hw39 => (GOk.fr (fr' := [(40, (.fp (e_api_Node (rd t1.1 0)) 0))]) ⟨DLe.of_eq (cT hw39).symm, trivial⟩ (VOk.g (VOk.to (d' := (.agg (e_api_Node (rd t1.1 0)))) (.loadFpAgg rfl Try.underlying27 rfl sz27 rfl rfl) rfl)))) ?_
          refine OpsOk.consI rfl rfl rfl (.one rfl) rfl (fun hw39 => (GOk.fr (fr' := [(41, (.agg (e_api_Node (rd t1.1 0))))]) ⟨DLe.of_eq (cT hw39).symm, trivial⟩ (GOk.call rfl rfl cl80 rfl (lists_is.ok (ifT h42 hw39)) rfl))) ?_
          refine .cv (VOk.to (VOk.pickI (b := (decide ((t1.1.length : Int) > 0))) (p := t41) (q := false) rfl rfl (fun hp43 => (cT (t_beq hp43))) (fun hp43 => rfl)) (pickAnd (decide ((t1.1.length : Int) > 0)) t41)) rfl rfl ?_
          exact .done (.rf rfl rfl)
        refine Ok.test (b := ((decide ((t1.1.length : Int) > 0)) && t41)) rfl (fun hb49 => ?_) (fun hb49 => ?_)
        · replace H := ifT H hb49
          refine Ok.seq ?_
          refine Ok.seq ?_
          obtain ⟨c44, H⟩ := assertE H
          obtain ⟨t45, h46, H⟩ := bindE H
          refine Ok.region (σ' := ⟨[(2, (.bref 2 0)), (4, (L 6 e_api_Node t1.1)), (6, (.bref 6 0)), (8, (.v (.bool t45.2)))], [(2, (.box .ex [(.v (.int .i64 0)), (S ([] : Str)), (S ([] : Str)), (L 4 e_api_Entry ([] : List T_api_Entry))])), (6, (.box .ex [(.v (.int .i64 2)), (S ([] : Str)), (S t7.1), (.sref 1123)])), (1123, (.rows true 56 4 (([] : List T_api_Entry).map e_api_Entry)))]⟩) ?_ ?_
          · refine .cv (VOk.mv (d := (L 6 e_api_Node t1.1)) rfl rfl) rfl rfl ?_
            refine .cv (VOk.indexL (sz := 6) (e := e_api_Node) (xs := t1.1) (i := 0) rfl Try.underlying25 sz27 rfl rfl c44) rfl rfl ?_
            refine .cv (VOk.to (d' := (.agg (e_api_Node (rd t1.1 0)))) (.loadFpAgg rfl Try.underlying27 rfl sz27 rfl rfl) rfl) rfl rfl ?_
            refine .cg (GOk.call rfl rfl cl81 rfl (lists_display.ok h46) rfl) rfl rfl ?_
            refine .cv (VOk.mv (d := (.tup [(S t45.1), (.v (.bool t45.2))])) rfl rfl) rfl rfl ?_
            refine .cv (VOk.extract (d := (S t45.1)) rfl rfl rfl) rfl rfl ?_
            refine .cv (VOk.extract (d := (.v (.bool t45.2))) rfl rfl rfl) rfl rfl ?_
            refine .cv (VOk.asg (d := (S t45.1)) rfl rfl) rfl rfl ?_
            refine .cv (VOk.asg (d := (.v (.bool t45.2))) rfl rfl) rfl rfl ?_
            exact .done (.rf rfl rfl)
          refine Ok.seq ?_
          refine Ok.region (σ' := ⟨[(2, (.bref 2 0)), (4, (L 6 e_api_Node t1.1)), (6, (.bref 6 0)), (52, (.v (.bool (!t45.2))))], [(2, (.box .ex [(.v (.int .i64 0)), (S ([] : Str)), (S ([] : Str)), (L 4 e_api_Entry ([] : List T_api_Entry))])), (6, (.box .ex [(.v (.int .i64 2)), (S ([] : Str)), (S t7.1), (.sref 1123)])), (1123, (.rows true 56 4 (([] : List T_api_Entry).map e_api_Entry)))]⟩) ?_ ?_
          · refine .cv (VOk.mv (d := (.v (.bool t45.2))) rfl rfl) rfl rfl ?_
            refine .cv (VOk.not (b := t45.2) rfl rfl) rfl rfl ?_
            exact .done (.rf rfl rfl)
          refine Ok.test (b := (!t45.2)) rfl (fun hb48 => ?_) (fun hb48 => ?_)
          · replace H := ifT H hb48
            refine Ok.seq ?_
            refine Ok.region (σ' := ⟨[(2, (.bref 2 0)), (3, (.v (.bool false)))], [(2, (.box .ex (c_api_Entry (T_api_Entry.mk 0 ([] : Str) ([] : Str) ([] : List T_api_Entry)))))]⟩) ?_ ?_
            · refine .cv (VOk.to (d' := (.agg (e_api_Entry (T_api_Entry.mk 0 ([] : Str) ([] : Str) ([] : List T_api_Entry))))) (.build [none, none, none, some 4] [(0, 1), (1, 1), (2, 1), (3, 1)] rfl Try.underlying56 (fa56 Try.underlying56) zo56 rfl rfl) (congrArg D.agg (e_api_Entry_c (T_api_Entry.mk 0 ([] : Str) ([] : Str) ([] : List T_api_Entry))).symm)) rfl rfl ?_
              refine OpsOk.cut1 53 (.agg [(.v (.int .i64 ((T_api_Entry.mk 0 ([] : Str) ([] : Str) ([] : List T_api_Entry)).Kind))), (S ((T_api_Entry.mk 0 ([] : Str) ([] : Str) ([] : List T_api_Entry)).URI)), (S ((T_api_Entry.mk 0 ([] : Str) ([] : Str) ([] : List T_api_Entry)).Name)), (L 4 e_api_Entry ((T_api_Entry.mk 0 ([] : Str) ([] : Str) ([] : List T_api_Entry)).List_))]) (DLe.of_eq (congrArg D.agg (e_api_Entry_c _).symm)) ?_
              refine OpsOk.cons rfl (OpOk.to (σ2 := St.put ⟨_, (2, (.box .ex (c_api_Entry (T_api_Entry.mk 0 ([] : Str) ([] : Str) ([] : List T_api_Entry))))) :: _⟩ _ .junk) (.storeB rfl sz56 rfl rfl rfl rfl rfl rfl) rfl) ?_
              refine .cv (VOk.asg (d := (.v (.bool false))) rfl rfl) rfl rfl ?_
              exact .done (.rf rfl rfl)
            refine Ok.ret ?_
            obtain rfl := Option.some.inj H
            exact ⟨.inl rfl, ⟨_, (.cons (.cell (VOk.to (d' := (.agg (e_api_Entry (T_api_Entry.mk 0 ([] : Str) ([] : Str) ([] : List T_api_Entry))))) (.loadBAgg rfl Try.underlying56 rfl sz56 rfl rfl rfl) (congrArg D.agg (e_api_Entry_c (T_api_Entry.mk 0 ([] : Str) ([] : Str) ([] : List T_api_Entry))).symm))) (.cons (.tmp rfl) .nil)), rfl⟩, trivial⟩
          · replace H := ifF H hb48
            refine Ok.skip ?_
            obtain ⟨c47, H⟩ := assertE H
            refine Ok.region (σ' := ⟨[(2, (.bref 2 0)), (4, (L 6 e_api_Node (sl t1.1 1 (t1.1.length : Int)))), (6, (.bref 6 0))], [(2, (.box .ex [(.v (.int .i64 0)), (S ([] : Str)), (S ([] : Str)), (L 4 e_api_Entry ([] : List T_api_Entry))])), (6, (.box .ex [(.v (.int .i64 2)), (S ([] : Str)), (S t7.1), (.sref 1123)])), (1123, (.rows true 56 4 (([] : List T_api_Entry).map e_api_Entry)))]⟩) ?_ ?_
            · refine .cv (VOk.mv (d := (L 6 e_api_Node t1.1)) rfl rfl) rfl rfl ?_
              refine .cv (VOk.sliceL (e := e_api_Node) (xs := t1.1) (l := 1) (h := (t1.1.length : Int)) rfl Try.underlying25 sz27 rfl rfl rfl c47) rfl rfl ?_
              refine .cv (VOk.asg (d := (L 6 e_api_Node (sl t1.1 1 (t1.1.length : Int)))) rfl rfl) rfl rfl ?_
              exact .done (.rf rfl rfl)
            exact ⟨(sl t1.1 1 (t1.1.length : Int)), rfl, H⟩
        · replace H := ifF H hb49
          refine Ok.le (σ' := ⟨[(2, (.bref 2 0)), (4, (L 6 e_api_Node t1.1)), (6, (.bref 6 0))], [(2, (.box .ex [(.v (.int .i64 0)), (S ([] : Str)), (S ([] : Str)), (L 4 e_api_Entry ([] : List T_api_Entry))])), (6, (.box .ex [(.v (.int .i64 2)), (S ([] : Str)), (S t7.1), (.sref 1123)])), (1123, (.rows true 56 4 (([] : List T_api_Entry).map e_api_Entry)))]⟩) (.rf rfl rfl) ?_
          refine Ok.skip ?_
          exact ⟨t1.1, rfl, H⟩
      · rintro σ ⟨x4_9, rfl, H⟩
        unfold lists_list.j2 at H
        refine Ok.seq ?_
        refine Ok.seq ?_
        refine Ok.region (σ' := ⟨[(2, (.bref 2 0)), (6, (.bref 6 0)), (56, (L 6 e_api_Node x4_9)), (57, (.v (.int .i64 (x4_9.length : Int)))), (58, (.v (.int .i64 0)))], [(2, (.box .ex [(.v (.int .i64 0)), (S ([] : Str)), (S ([] : Str)), (L 4 e_api_Entry ([] : List T_api_Entry))])), (6, (.box .ex [(.v (.int .i64 2)), (S ([] : Str)), (S t7.1), (.sref 1123)])), (1123, (.rows true 56 4 (([] : List T_api_Entry).map e_api_Entry)))]⟩) ?_ ?_
        · refine .cv (VOk.mv (d := (L 6 e_api_Node x4_9)) rfl rfl) rfl rfl ?_
          refine .cv (VOk.lenL (e := e_api_Node) (xs := x4_9) rfl Try.underlying25 rfl) rfl rfl ?_
          refine .cv (VOk.mv (d := (.v (.int .i64 0))) rfl rfl) rfl rfl ?_
          exact .done (.rf rfl rfl)
        refine Ok.block ?_
        refine Ok.le (σ' := ⟨[(2, (.bref 2 0)), (6, (.bref 6 0)), (56, (L 6 e_api_Node x4_9)), (57, (.v (.int .i64 (x4_9.length : Int)))), (58, (.v (.int .i64 0)))], [(2, (.box .ex [(.v (.int .i64 0)), (S ([] : Str)), (S ([] : Str)), (L 4 e_api_Entry ([] : List T_api_Entry))])), (6, (.box .ex [(.v (.int .i64 2)), (S ([] : Str)), (S t7.1), (.sref 1123)])), (1123, (.rows true 56 4 (([] : List T_api_Entry).map e_api_Entry)))]⟩) (.rf rfl rfl) ?_
        refine Ok.loop (fun m28 σ => ∃ (y2_0_11 : Int) (y2_1_12 : Str) (y2_2_13 : Str) (y2_3_14 : List T_api_Entry) (y6_0_15 : Int) (y6_1_16 : Str) (y6_2_17 : Str) (y1123_18 : List T_api_Entry) (x58_10 : Int), σ = ⟨[(2, (.bref 2 0)), (6, (.bref 6 0)), (56, (L 6 e_api_Node x4_9)), (57, (.v (.int .i64 (x4_9.length : Int)))), (58, (.v (.int .i64 x58_10)))], [(2, (.box .ex [(.v (.int .i64 y2_0_11)), (S y2_1_12), (S y2_2_13), (L 4 e_api_Entry y2_3_14)])), (6, (.box .ex [(.v (.int .i64 y6_0_15)), (S y6_1_16), (S y6_2_17), (.sref 1123)])), (1123, (.rows true 56 4 (y1123_18.map e_api_Entry)))]⟩ ∧ lists_list.l0 k (lists_list k) x4_9 m28 y2_0_11 y2_1_12 y2_2_13 y2_3_14 y6_0_15 y6_1_16 y6_2_17 y1123_18 x58_10 = some r) k ⟨0, ([] : Str), ([] : Str), ([] : List T_api_Entry), 2, ([] : Str), t7.1, ([] : List T_api_Entry), 0, rfl, H⟩ ?_
        rintro m28 σ ⟨y2_0_11, y2_1_12, y2_2_13, y2_3_14, y6_0_15, y6_1_16, y6_2_17, y1123_18, x58_10, rfl, H⟩
        cases m28 with
        | zero => exact absurd H (by simp [lists_list.l0])
        | succ m28 =>
          unfold lists_list.l0 at H
          refine Ok.seq ?_
          refine Ok.region (σ' := ⟨[(2, (.bref 2 0)), (6, (.bref 6 0)), (56, (L 6 e_api_Node x4_9)), (57, (.v (.int .i64 (x4_9.length : Int)))), (58, (.v (.int .i64 x58_10))), (59, (.v (.bool (decide (x58_10 < (x4_9.length : Int))))))], [(2, (.box .ex [(.v (.int .i64 y2_0_11)), (S y2_1_12), (S y2_2_13), (L 4 e_api_Entry y2_3_14)])), (6, (.box .ex [(.v (.int .i64 y6_0_15)), (S y6_1_16), (S y6_2_17), (.sref 1123)])), (1123, (.rows true 56 4 (y1123_18.map e_api_Entry)))]⟩) ?_ ?_
          · refine .cv (VOk.arith (op := .lss) (k := .i64) (a := x58_10) (b := (x4_9.length : Int)) rfl rfl rfl rfl) rfl rfl ?_
            exact .done (.rf rfl rfl)
          refine Ok.seq ?_
          refine Ok.test (b := (decide (x58_10 < (x4_9.length : Int)))) rfl (fun hb38 => ?_) (fun hb38 => ?_)
          · replace H := ifT H hb38
            refine Ok.skip ?_
            refine Ok.seq ?_
            refine Ok.block ?_
            refine Ok.seq ?_
            obtain ⟨c29, H⟩ := assertE H
            refine Ok.region (σ' := ⟨[(2, (.bref 2 0)), (6, (.bref 6 0)), (10, (.bref 10 0)), (56, (L 6 e_api_Node x4_9)), (57, (.v (.int .i64 (x4_9.length : Int)))), (58, (.v (.int .i64 x58_10)))], [(2, (.box .ex [(.v (.int .i64 y2_0_11)), (S y2_1_12), (S y2_2_13), (L 4 e_api_Entry y2_3_14)])), (6, (.box .ex [(.v (.int .i64 y6_0_15)), (S y6_1_16), (S y6_2_17), (.sref 1123)])), (10, (.box .ex (c_api_Node (rd x4_9 x58_10)))), (1123, (.rows true 56 4 (y1123_18.map e_api_Entry)))]⟩) ?_ ?_
            · refine .cv (VOk.indexL (sz := 6) (e := e_api_Node) (xs := x4_9) (i := x58_10) rfl Try.underlying25 sz27 rfl rfl c29) rfl rfl ?_
              refine .cv (VOk.to (d' := (.agg (e_api_Node (rd x4_9 x58_10)))) (.loadFpAgg rfl Try.underlying27 rfl sz27 rfl rfl) rfl) rfl rfl ?_
              refine OpsOk.cons rfl (OpOk.alloc 10 [none, none, none, some 3, some 6, none] rfl zo27 rfl rfl) ?_
              refine OpsOk.cut1 61 (.agg [(.v (.int .i64 ((rd x4_9 x58_10).Kind))), (S ((rd x4_9 x58_10).Name.Space)), (S ((rd x4_9 x58_10).Name.Local)), (L 3 e_api_Attr ((rd x4_9 x58_10).Attrs)), (L 6 e_api_Node ((rd x4_9 x58_10).Kids)), (S ((rd x4_9 x58_10).Text))]) (DLe.of_eq (congrArg D.agg (e_api_Node_c _).symm)) ?_
              refine OpsOk.cons rfl (OpOk.to (σ2 := St.put ⟨_, (10, (.box .ex (c_api_Node (rd x4_9 x58_10)))) :: _⟩ _ .junk) (.storeB rfl sz27 rfl rfl rfl rfl rfl rfl) rfl) ?_
              exact .done (.rf rfl rfl)
            refine Ok.seq ?_
            refine Ok.region (σ' := ⟨[(2, (.bref 2 0)), (6, (.bref 6 0)), (10, (.bref 10 0)), (11, (.clo 82 [])), (56, (L 6 e_api_Node x4_9)), (57, (.v (.int .i64 (x4_9.length : Int)))), (58, (.v (.int .i64 x58_10)))], [(2, (.box .ex [(.v (.int .i64 y2_0_11)), (S y2_1_12), (S y2_2_13), (L 4 e_api_Entry y2_3_14)])), (6, (.box .ex [(.v (.int .i64 y6_0_15)), (S y6_1_16), (S y6_2_17), (.sref 1123)])), (10, (.box .ex (c_api_Node (rd x4_9 x58_10)))), (1123, (.rows true 56 4 (y1123_18.map e_api_Entry)))]⟩) ?_ ?_
            · refine .cv (VOk.asg (d := (.clo 82 [])) rfl rfl) rfl rfl ?_
              exact .done (.rf rfl rfl)
            refine Ok.meet (fun σ => ∃ (x11_30 : Nat), σ = ⟨[(2, (.bref 2 0)), (6, (.bref 6 0)), (10, (.bref 10 0)), (11, (.clo x11_30 [])), (56, (L 6 e_api_Node x4_9)), (57, (.v (.int .i64 (x4_9.length : Int)))), (58, (.v (.int .i64 x58_10)))], [(2, (.box .ex [(.v (.int .i64 y2_0_11)), (S y2_1_12), (S y2_2_13), (L 4 e_api_Entry y2_3_14)])), (6, (.box .ex [(.v (.int .i64 y6_0_15)), (S y6_1_16), (S y6_2_17), (.sref 1123)])), (10, (.box .ex (c_api_Node (rd x4_9 x58_10)))), (1123, (.rows true 56 4 (y1123_18.map e_api_Entry)))]⟩ ∧ lists_list.j1 k (lists_list k) (lists_list.l0 k (lists_list k) x4_9 m28) x4_9 y2_0_11 y2_1_12 y2_2_13 y2_3_14 y6_0_15 y6_1_16 y6_2_17 y1123_18 x58_10 x11_30 = some r) ?_ ?_
            · refine Ok.seq ?_
              obtain ⟨t35, h36, H⟩ := bindE H
              refine Ok.region (σ' := ⟨[(2, (.bref 2 0)), (6, (.bref 6 0)), (10, (.bref 10 0)), (11, (.clo 82 [])), (56, (L 6 e_api_Node x4_9)), (57, (.v (.int .i64 (x4_9.length : Int)))), (58, (.v (.int .i64 x58_10))), (63, (.v (.bool t35)))], [(2, (.box .ex [(.v (.int .i64 y2_0_11)), (S y2_1_12), (S y2_2_13), (L 4 e_api_Entry y2_3_14)])), (6, (.box .ex [(.v (.int .i64 y6_0_15)), (S y6_1_16), (S y6_2_17), (.sref 1123)])), (10, (.box .ex (c_api_Node (rd x4_9 x58_10)))), (1123, (.rows true 56 4 (y1123_18.map e_api_Entry)))]⟩) ?_ ?_
              · refine .cv (VOk.to (d' := (.agg (e_api_Node (rd x4_9 x58_10)))) (.loadBAgg rfl Try.underlying27 rfl sz27 rfl rfl rfl) (congrArg D.agg (e_api_Node_c (rd x4_9 x58_10)).symm)) rfl rfl ?_
                refine .cg (GOk.call rfl rfl cl80 rfl (lists_is.ok h36) rfl) rfl rfl ?_
                exact .done (.rf rfl rfl)
              refine Ok.test (b := t35) rfl (fun hb37 => ?_) (fun hb37 => ?_)
              · replace H := ifT H hb37
                refine Ok.region (σ' := ⟨[(2, (.bref 2 0)), (6, (.bref 6 0)), (10, (.bref 10 0)), (11, (.clo 71 [])), (56, (L 6 e_api_Node x4_9)), (57, (.v (.int .i64 (x4_9.length : Int)))), (58, (.v (.int .i64 x58_10)))], [(2, (.box .ex [(.v (.int .i64 y2_0_11)), (S y2_1_12), (S y2_2_13), (L 4 e_api_Entry y2_3_14)])), (6, (.box .ex [(.v (.int .i64 y6_0_15)), (S y6_1_16), (S y6_2_17), (.sref 1123)])), (10, (.box .ex (c_api_Node (rd x4_9 x58_10)))), (1123, (.rows true 56 4 (y1123_18.map e_api_Entry)))]⟩) ?_ ?_
                · refine .cv (VOk.asg (d := (.clo 71 [])) rfl rfl) rfl rfl ?_
                  exact .done (.rf rfl rfl)
                exact ⟨71, rfl, H⟩
              · replace H := ifF H hb37
                refine Ok.le (σ' := ⟨[(2, (.bref 2 0)), (6, (.bref 6 0)), (10, (.bref 10 0)), (11, (.clo 82 [])), (56, (L 6 e_api_Node x4_9)), (57, (.v (.int .i64 (x4_9.length : Int)))), (58, (.v (.int .i64 x58_10)))], [(2, (.box .ex [(.v (.int .i64 y2_0_11)), (S y2_1_12), (S y2_2_13), (L 4 e_api_Entry y2_3_14)])), (6, (.box .ex [(.v (.int .i64 y6_0_15)), (S y6_1_16), (S y6_2_17), (.sref 1123)])), (10, (.box .ex (c_api_Node (rd x4_9 x58_10)))), (1123, (.rows true 56 4 (y1123_18.map e_api_Entry)))]⟩) (.rf rfl rfl) ?_
                refine Ok.skip ?_
                exact ⟨82, rfl, H⟩
            · rintro σ ⟨x11_30, rfl, H⟩
              unfold lists_list.j1 at H
              refine Ok.seq ?_
              obtain ⟨t31, h32, H⟩ := bindE H
              refine Ok.region (σ' := ⟨[(2, (.bref 2 0)), (6, (.bref 6 0)), (12, (.bref 12 0)), (13, (.v (.bool t31.2))), (56, (L 6 e_api_Node x4_9)), (57, (.v (.int .i64 (x4_9.length : Int)))), (58, (.v (.int .i64 x58_10)))], [(2, (.box .ex [(.v (.int .i64 y2_0_11)), (S y2_1_12), (S y2_2_13), (L 4 e_api_Entry y2_3_14)])), (6, (.box .ex [(.v (.int .i64 y6_0_15)), (S y6_1_16), (S y6_2_17), (.sref 1123)])), (12, (.box .ex (c_api_Entry t31.1))), (1123, (.rows true 56 4 (y1123_18.map e_api_Entry)))]⟩) ?_ ?_
              · refine .cv (VOk.mv (d := (.clo x11_30 [])) rfl rfl) rfl rfl ?_
                refine .cv (VOk.to (d' := (.agg (e_api_Node (rd x4_9 x58_10)))) (.loadBAgg rfl Try.underlying27 rfl sz27 rfl rfl rfl) (congrArg D.agg (e_api_Node_c (rd x4_9 x58_10)).symm)) rfl rfl ?_
                refine .cg (have q : callable Try.prog x11_30 = true ∧ Vx.Fn Try.prog x11_30 [(.agg (e_api_Node (rd x4_9 x58_10)))] [] (.tup [(.agg (e_api_Entry t31.1)), (.v (.bool t31.2))]) [] := (fun h => selF h (fun e h => by rw [e]; exact ⟨cl71, (@ih _ _ h)⟩) (fun h => selF h (fun e h => by rw [e]; exact ⟨cl82, (lists_plain.ok h)⟩) (fun h => nomatch h))) h32; GOk.call rfl rfl q.1 rfl q.2 rfl) rfl rfl ?_
                refine .cv (VOk.mv (d := (.tup [(.agg (e_api_Entry t31.1)), (.v (.bool t31.2))])) rfl rfl) rfl rfl ?_
                refine .cv (VOk.extract (d := (.agg (e_api_Entry t31.1))) rfl rfl rfl) rfl rfl ?_
                refine .cv (VOk.extract (d := (.v (.bool t31.2))) rfl rfl rfl) rfl rfl ?_
                refine OpsOk.cons rfl (OpOk.alloc 12 [none, none, none, some 4] rfl zo56 rfl rfl) ?_
                refine OpsOk.cut1 68 (.agg [(.v (.int .i64 t31.1.Kind)), (S t31.1.URI), (S t31.1.Name), (L 4 e_api_Entry t31.1.List_)]) (DLe.of_eq (congrArg D.agg (e_api_Entry_c _).symm)) ?_
                refine OpsOk.cons rfl (OpOk.to (σ2 := St.put ⟨_, (12, (.box .ex (c_api_Entry t31.1))) :: _⟩ _ .junk) (.storeB rfl sz56 rfl rfl rfl rfl rfl rfl) rfl) ?_
                refine .cv (VOk.asg (d := (.v (.bool t31.2))) rfl rfl) rfl rfl ?_
                exact .done (.rf rfl rfl)
              refine Ok.seq ?_
              refine Ok.seq ?_
              refine Ok.region (σ' := ⟨[(2, (.bref 2 0)), (6, (.bref 6 0)), (12, (.bref 12 0)), (56, (L 6 e_api_Node x4_9)), (57, (.v (.int .i64 (x4_9.length : Int)))), (58, (.v (.int .i64 x58_10))), (71, (.v (.bool (!t31.2))))], [(2, (.box .ex [(.v (.int .i64 y2_0_11)), (S y2_1_12), (S y2_2_13), (L 4 e_api_Entry y2_3_14)])), (6, (.box .ex [(.v (.int .i64 y6_0_15)), (S y6_1_16), (S y6_2_17), (.sref 1123)])), (12, (.box .ex (c_api_Entry t31.1))), (1123, (.rows true 56 4 (y1123_18.map e_api_Entry)))]⟩) ?_ ?_
              · refine .cv (VOk.mv (d := (.v (.bool t31.2))) rfl rfl) rfl rfl ?_
                refine .cv (VOk.not (b := t31.2) rfl rfl) rfl rfl ?_
                exact .done (.rf rfl rfl)
              refine Ok.test (b := (!t31.2)) rfl (fun hb34 => ?_) (fun hb34 => ?_)
              · replace H := ifT H hb34
                refine Ok.seq ?_
                refine Ok.region (σ' := ⟨[(2, (.bref 2 0)), (3, (.v (.bool false)))], [(2, (.box .ex (c_api_Entry (T_api_Entry.mk 0 ([] : Str) ([] : Str) ([] : List T_api_Entry)))))]⟩) ?_ ?_
                · refine .cv (VOk.to (d' := (.agg (e_api_Entry (T_api_Entry.mk 0 ([] : Str) ([] : Str) ([] : List T_api_Entry))))) (.build [none, none, none, some 4] [(0, 1), (1, 1), (2, 1), (3, 1)] rfl Try.underlying56 (fa56 Try.underlying56) zo56 rfl rfl) (congrArg D.agg (e_api_Entry_c (T_api_Entry.mk 0 ([] : Str) ([] : Str) ([] : List T_api_Entry))).symm)) rfl rfl ?_
                  refine OpsOk.cut1 72 (.agg [(.v (.int .i64 ((T_api_Entry.mk 0 ([] : Str) ([] : Str) ([] : List T_api_Entry)).Kind))), (S ((T_api_Entry.mk 0 ([] : Str) ([] : Str) ([] : List T_api_Entry)).URI)), (S ((T_api_Entry.mk 0 ([] : Str) ([] : Str) ([] : List T_api_Entry)).Name)), (L 4 e_api_Entry ((T_api_Entry.mk 0 ([] : Str) ([] : Str) ([] : List T_api_Entry)).List_))]) (DLe.of_eq (congrArg D.agg (e_api_Entry_c _).symm)) ?_
                  refine OpsOk.cons rfl (OpOk.to (σ2 := St.put ⟨_, (2, (.box .ex (c_api_Entry (T_api_Entry.mk 0 ([] : Str) ([] : Str) ([] : List T_api_Entry))))) :: _⟩ _ .junk) (.storeB rfl sz56 rfl rfl rfl rfl rfl rfl) rfl) ?_
                  refine .cv (VOk.asg (d := (.v (.bool false))) rfl rfl) rfl rfl ?_
                  exact .done (.rf rfl rfl)
                refine Ok.ret ?_
                obtain rfl := Option.some.inj H
                exact ⟨.inl rfl, ⟨_, (.cons (.cell (VOk.to (d' := (.agg (e_api_Entry (T_api_Entry.mk 0 ([] : Str) ([] : Str) ([] : List T_api_Entry))))) (.loadBAgg rfl Try.underlying56 rfl sz56 rfl rfl rfl) (congrArg D.agg (e_api_Entry_c (T_api_Entry.mk 0 ([] : Str) ([] : Str) ([] : List T_api_Entry))).symm))) (.cons (.tmp rfl) .nil)), rfl⟩, trivial⟩
              · replace H := ifF H hb34
                refine Ok.skip ?_
                obtain ⟨c33, H⟩ := assertE H
                refine Ok.region (σ' := ⟨[(2, (.bref 2 0)), (6, (.bref 6 0)), (56, (L 6 e_api_Node x4_9)), (57, (.v (.int .i64 (x4_9.length : Int)))), (58, (.v (.int .i64 x58_10)))], [(2, (.box .ex [(.v (.int .i64 y2_0_11)), (S y2_1_12), (S y2_2_13), (L 4 e_api_Entry y2_3_14)])), (6, (.box .ex [(.v (.int .i64 y6_0_15)), (S y6_1_16), (S y6_2_17), (.sref 1123)])), (1123, (.rows true 56 4 ((y1123_18 ++ ([t31.1] : List T_api_Entry)).map e_api_Entry)))]⟩) ?_ ?_
                · refine .cv (VOk.to (VOk.fieldB rfl Try.underlying56 rfl sz36 rfl rfl) rfl) rfl rfl ?_
                  refine .cv (VOk.loadB (d := (.sref 1123)) rfl Try.underlying36 rfl rfl rfl rfl) rfl rfl ?_
                  refine .cv (VOk.to (d' := (.agg (e_api_Entry t31.1))) (.loadBAgg rfl Try.underlying56 rfl sz56 rfl rfl rfl) (congrArg D.agg (e_api_Entry_c t31.1).symm)) rfl rfl ?_
                  refine .cg (GOk.to (d' := (L 4 e_api_Entry ([t31.1] : List T_api_Entry))) (GOk.lit rfl Try.underlying36 sz56 zs56 rfl rfl rfl rfl) rfl) rfl rfl ?_
                  refine OpsOk.cons rfl (OpOk.appendL (e := e_api_Entry) (xs := y1123_18) (ys := ([t31.1] : List T_api_Entry)) rfl Try.underlying36 elt56 rfl rfl rfl c33 rfl) ?_
                  refine .cv (VOk.to (VOk.fieldB rfl Try.underlying56 rfl sz36 rfl rfl) rfl) rfl rfl ?_
                  refine OpsOk.cons rfl (OpOk.to (σ2 := St.put ⟨_, (6, (.box .ex [(.v (.int .i64 y6_0_15)), (S y6_1_16), (S y6_2_17), (.sref 1123)])) :: _⟩ _ .junk) (.storeB rfl sz36 rfl rfl rfl rfl rfl rfl) rfl) ?_
                  exact .done (.rf rfl rfl)
                refine Ok.region (σ' := ⟨[(2, (.bref 2 0)), (6, (.bref 6 0)), (56, (L 6 e_api_Node x4_9)), (57, (.v (.int .i64 (x4_9.length : Int)))), (58, (.v (.int .i64 (IntKind.i64.wrap (x58_10 + 1)))))], [(2, (.box .ex [(.v (.int .i64 y2_0_11)), (S y2_1_12), (S y2_2_13), (L 4 e_api_Entry y2_3_14)])), (6, (.box .ex [(.v (.int .i64 y6_0_15)), (S y6_1_16), (S y6_2_17), (.sref 1123)])), (1123, (.rows true 56 4 ((y1123_18 ++ ([t31.1] : List T_api_Entry)).map e_api_Entry)))]⟩) ?_ ?_
                · refine .cv (VOk.arith (op := .add) (k := .i64) (a := x58_10) (b := 1) rfl rfl rfl rfl) rfl rfl ?_
                  refine .cv (VOk.mv (d := (.v (.int .i64 (IntKind.i64.wrap (x58_10 + 1))))) rfl rfl) rfl rfl ?_
                  exact .done (.rf rfl rfl)
                exact ⟨m28, Nat.lt_succ_self m28, y2_0_11, y2_1_12, y2_2_13, y2_3_14, y6_0_15, y6_1_16, y6_2_17, (y1123_18 ++ ([t31.1] : List T_api_Entry)), (IntKind.i64.wrap (x58_10 + 1)), rfl, H⟩
          · replace H := ifF H hb38
            refine Ok.exit ?_
            refine Ok.seq ?_
            refine Ok.region (σ' := ⟨[(2, (.bref 2 0)), (3, (.v (.bool true)))], [(2, (.box .ex (c_api_Entry (T_api_Entry.mk y6_0_15 y6_1_16 y6_2_17 y1123_18))))]⟩) ?_ ?_
            · refine OpsOk.frzL 1123 (e := e_api_Entry) (xs := y1123_18) rfl ?_
              refine .cv (VOk.to (d' := (.agg (e_api_Entry (T_api_Entry.mk y6_0_15 y6_1_16 y6_2_17 y1123_18)))) (.loadBAgg rfl Try.underlying56 rfl sz56 rfl rfl rfl) (congrArg D.agg (e_api_Entry_c (T_api_Entry.mk y6_0_15 y6_1_16 y6_2_17 y1123_18)).symm)) rfl rfl ?_
              refine OpsOk.cut1 80 (.agg [(.v (.int .i64 ((T_api_Entry.mk y6_0_15 y6_1_16 y6_2_17 y1123_18).Kind))), (S ((T_api_Entry.mk y6_0_15 y6_1_16 y6_2_17 y1123_18).URI)), (S ((T_api_Entry.mk y6_0_15 y6_1_16 y6_2_17 y1123_18).Name)), (L 4 e_api_Entry ((T_api_Entry.mk y6_0_15 y6_1_16 y6_2_17 y1123_18).List_))]) (DLe.of_eq (congrArg D.agg (e_api_Entry_c _).symm)) ?_
              refine OpsOk.cons rfl (OpOk.to (σ2 := St.put ⟨_, (2, (.box .ex (c_api_Entry (T_api_Entry.mk y6_0_15 y6_1_16 y6_2_17 y1123_18)))) :: _⟩ _ .junk) (.storeB rfl sz56 rfl rfl rfl rfl rfl rfl) rfl) ?_
              refine .cv (VOk.asg (d := (.v (.bool true))) rfl rfl) rfl rfl ?_
              exact .done (.rf rfl rfl)
            refine Ok.ret ?_
            obtain rfl := Option.some.inj H
            exact ⟨.inl rfl, ⟨_, (.cons (.cell (VOk.to (d' := (.agg (e_api_Entry (T_api_Entry.mk y6_0_15 y6_1_16 y6_2_17 y1123_18)))) (.loadBAgg rfl Try.underlying56 rfl sz56 rfl rfl rfl) (congrArg D.agg (e_api_Entry_c (T_api_Entry.mk y6_0_15 y6_1_16 y6_2_17 y1123_18)).symm))) (.cons (.tmp rfl) .nil)), rfl⟩, trivial⟩

/-! watchbill/lists.DecodeList: function 51 -/
def lists_DecodeList (k : Nat) (a0 : T_api_Node) : Option (T_api_Entry × Int) := ((lists_list k a0).bind fun (t1 : T_api_Entry × Bool) => (if (!t1.2) = true then some ((T_api_Entry.mk 0 ([] : Str) ([] : Str) ([] : List T_api_Entry)), 40) else ((lists_unique k t1.1.List_).bind fun (t3 : Bool) => (if (!t3) = true then some ((T_api_Entry.mk 0 ([] : Str) ([] : Str) ([] : List T_api_Entry)), 41) else some (t1.1, 0)))))
theorem lists_DecodeList.ok {k : Nat} {a0 : T_api_Node} {r : T_api_Entry × Int} (H : lists_DecodeList k a0 = some r) : Vx.Fn Try.prog 51 [(.agg (e_api_Node a0))] [] (.tup [(.agg (e_api_Entry r.1)), (.v (.int .i64 r.2))]) [] := by
  unfold lists_DecodeList at H
  refine Vx.Fn.of_okR Try.func51 rfl (Nat.le_of_ble_eq_true rfl) ?_
  refine Ok.seq ?_
  refine Ok.region (σ' := ⟨[(1, (.bref 1 0)), (2, (.bref 2 0))], [(1, (.box .ex (c_api_Node a0))), (2, (.box .ex [(.v (.int .i64 0)), (S ([] : Str)), (S ([] : Str)), (L 4 e_api_Entry ([] : List T_api_Entry))]))]⟩) ?_ ?_
  · refine OpsOk.cut1 0 (.agg [(.v (.int .i64 a0.Kind)), (S a0.Name.Space), (S a0.Name.Local), (L 3 e_api_Attr a0.Attrs), (L 6 e_api_Node a0.Kids), (S a0.Text)]) (DLe.of_eq (congrArg D.agg (e_api_Node_c _).symm)) ?_
    refine OpsOk.cons rfl (OpOk.box 1 (cells := [(.v (.int .i64 a0.Kind)), (S a0.Name.Space), (S a0.Name.Local), (L 3 e_api_Attr a0.Attrs), (L 6 e_api_Node a0.Kids), (S a0.Text)]) rfl rfl rfl rfl) ?_
    refine OpsOk.cons rfl (OpOk.alloc 2 [none, none, none, some 4] rfl zo56 rfl rfl) ?_
    refine .cv (VOk.asg (d := (.v (.int .i64 0))) rfl rfl) rfl rfl ?_
    exact .done (.rf rfl rfl)
  refine Ok.seq ?_
  obtain ⟨t1, h2, H⟩ := bindE H
  refine Ok.region (σ' := ⟨[(2, (.bref 2 0)), (4, (.bref 4 0)), (5, (.v (.bool t1.2)))], [(2, (.box .ex [(.v (.int .i64 0)), (S ([] : Str)), (S ([] : Str)), (L 4 e_api_Entry ([] : List T_api_Entry))])), (4, (.box .ex (c_api_Entry t1.1)))]⟩) ?_ ?_
  · refine .cv (VOk.to (d' := (.agg (e_api_Node a0))) (.loadBAgg rfl Try.underlying27 rfl sz27 rfl rfl rfl) (congrArg D.agg (e_api_Node_c a0).symm)) rfl rfl ?_
    refine .cg (GOk.call rfl rfl cl71 rfl (lists_list.ok h2) rfl) rfl rfl ?_
    refine .cv (VOk.mv (d := (.tup [(.agg (e_api_Entry t1.1)), (.v (.bool t1.2))])) rfl rfl) rfl rfl ?_
    refine .cv (VOk.extract (d := (.agg (e_api_Entry t1.1))) rfl rfl rfl) rfl rfl ?_
    refine .cv (VOk.extract (d := (.v (.bool t1.2))) rfl rfl rfl) rfl rfl ?_
    refine OpsOk.cons rfl (OpOk.alloc 4 [none, none, none, some 4] rfl zo56 rfl rfl) ?_
    refine OpsOk.cut1 9 (.agg [(.v (.int .i64 t1.1.Kind)), (S t1.1.URI), (S t1.1.Name), (L 4 e_api_Entry t1.1.List_)]) (DLe.of_eq (congrArg D.agg (e_api_Entry_c _).symm)) ?_
    refine OpsOk.cons rfl (OpOk.to (σ2 := St.put ⟨_, (4, (.box .ex (c_api_Entry t1.1))) :: _⟩ _ .junk) (.storeB rfl sz56 rfl rfl rfl rfl rfl rfl) rfl) ?_
    refine .cv (VOk.asg (d := (.v (.bool t1.2))) rfl rfl) rfl rfl ?_
    exact .done (.rf rfl rfl)
  refine Ok.seq ?_
  refine Ok.block ?_
  refine Ok.seq ?_
  refine Ok.region (σ' := ⟨[(2, (.bref 2 0)), (4, (.bref 4 0)), (11, (.v (.bool (!t1.2))))], [(2, (.box .ex [(.v (.int .i64 0)), (S ([] : Str)), (S ([] : Str)), (L 4 e_api_Entry ([] : List T_api_Entry))])), (4, (.box .ex (c_api_Entry t1.1)))]⟩) ?_ ?_
  · refine .cv (VOk.mv (d := (.v (.bool t1.2))) rfl rfl) rfl rfl ?_
    refine .cv (VOk.not (b := t1.2) rfl rfl) rfl rfl ?_
    refine .cv (VOk.asg (d := (.v (.bool (!t1.2)))) rfl rfl) rfl rfl ?_
    exact .done (.rf rfl rfl)
  refine Ok.test (b := (!t1.2)) rfl (fun hb6 => ?_) (fun hb6 => ?_)
  · replace H := ifT H hb6
    refine Ok.seq ?_
    refine Ok.region (σ' := ⟨[(2, (.bref 2 0)), (3, (.v (.int .i64 40)))], [(2, (.box .ex (c_api_Entry (T_api_Entry.mk 0 ([] : Str) ([] : Str) ([] : List T_api_Entry)))))]⟩) ?_ ?_
    · refine .cv (VOk.to (d' := (.agg (e_api_Entry (T_api_Entry.mk 0 ([] : Str) ([] : Str) ([] : List T_api_Entry))))) (.build [none, none, none, some 4] [(0, 1), (1, 1), (2, 1), (3, 1)] rfl Try.underlying56 (fa56 Try.underlying56) zo56 rfl rfl) (congrArg D.agg (e_api_Entry_c (T_api_Entry.mk 0 ([] : Str) ([] : Str) ([] : List T_api_Entry))).symm)) rfl rfl ?_
      refine OpsOk.cut1 14 (.agg [(.v (.int .i64 ((T_api_Entry.mk 0 ([] : Str) ([] : Str) ([] : List T_api_Entry)).Kind))), (S ((T_api_Entry.mk 0 ([] : Str) ([] : Str) ([] : List T_api_Entry)).URI)), (S ((T_api_Entry.mk 0 ([] : Str) ([] : Str) ([] : List T_api_Entry)).Name)), (L 4 e_api_Entry ((T_api_Entry.mk 0 ([] : Str) ([] : Str) ([] : List T_api_Entry)).List_))]) (DLe.of_eq (congrArg D.agg (e_api_Entry_c _).symm)) ?_
      refine OpsOk.cons rfl (OpOk.to (σ2 := St.put ⟨_, (2, (.box .ex (c_api_Entry (T_api_Entry.mk 0 ([] : Str) ([] : Str) ([] : List T_api_Entry))))) :: _⟩ _ .junk) (.storeB rfl sz56 rfl rfl rfl rfl rfl rfl) rfl) ?_
      refine .cv (VOk.asg (d := (.v (.int .i64 40))) rfl rfl) rfl rfl ?_
      exact .done (.rf rfl rfl)
    refine Ok.ret ?_
    obtain rfl := Option.some.inj H
    exact ⟨.inl rfl, ⟨_, (.cons (.cell (VOk.to (d' := (.agg (e_api_Entry (T_api_Entry.mk 0 ([] : Str) ([] : Str) ([] : List T_api_Entry))))) (.loadBAgg rfl Try.underlying56 rfl sz56 rfl rfl rfl) (congrArg D.agg (e_api_Entry_c (T_api_Entry.mk 0 ([] : Str) ([] : Str) ([] : List T_api_Entry))).symm))) (.cons (.tmp rfl) .nil)), rfl⟩, trivial⟩
  · replace H := ifF H hb6
    refine Ok.seq ?_
    obtain ⟨t3, h4, H⟩ := bindE H
    refine Ok.region (σ' := ⟨[(2, (.bref 2 0)), (4, (.bref 4 0)), (15, (.v (.bool (!t3))))], [(2, (.box .ex [(.v (.int .i64 0)), (S ([] : Str)), (S ([] : Str)), (L 4 e_api_Entry ([] : List T_api_Entry))])), (4, (.box .ex (c_api_Entry t1.1)))]⟩) ?_ ?_
    · refine .cv (VOk.to (VOk.fieldB rfl Try.underlying56 rfl sz36 rfl rfl) rfl) rfl rfl ?_
      refine .cv (VOk.loadB (d := (L 4 e_api_Entry t1.1.List_)) rfl Try.underlying36 rfl rfl rfl rfl) rfl rfl ?_
      refine .cg (GOk.call rfl rfl cl72 rfl (lists_unique.ok h4) rfl) rfl rfl ?_
      refine .cv (VOk.not (b := t3) rfl rfl) rfl rfl ?_
      refine .cv (VOk.asg (d := (.v (.bool (!t3)))) rfl rfl) rfl rfl ?_
      exact .done (.rf rfl rfl)
    refine Ok.test (b := (!t3)) rfl (fun hb5 => ?_) (fun hb5 => ?_)
    · replace H := ifT H hb5
      refine Ok.seq ?_
      refine Ok.region (σ' := ⟨[(2, (.bref 2 0)), (3, (.v (.int .i64 41)))], [(2, (.box .ex (c_api_Entry (T_api_Entry.mk 0 ([] : Str) ([] : Str) ([] : List T_api_Entry)))))]⟩) ?_ ?_
      · refine .cv (VOk.to (d' := (.agg (e_api_Entry (T_api_Entry.mk 0 ([] : Str) ([] : Str) ([] : List T_api_Entry))))) (.build [none, none, none, some 4] [(0, 1), (1, 1), (2, 1), (3, 1)] rfl Try.underlying56 (fa56 Try.underlying56) zo56 rfl rfl) (congrArg D.agg (e_api_Entry_c (T_api_Entry.mk 0 ([] : Str) ([] : Str) ([] : List T_api_Entry))).symm)) rfl rfl ?_
        refine OpsOk.cut1 20 (.agg [(.v (.int .i64 ((T_api_Entry.mk 0 ([] : Str) ([] : Str) ([] : List T_api_Entry)).Kind))), (S ((T_api_Entry.mk 0 ([] : Str) ([] : Str) ([] : List T_api_Entry)).URI)), (S ((T_api_Entry.mk 0 ([] : Str) ([] : Str) ([] : List T_api_Entry)).Name)), (L 4 e_api_Entry ((T_api_Entry.mk 0 ([] : Str) ([] : Str) ([] : List T_api_Entry)).List_))]) (DLe.of_eq (congrArg D.agg (e_api_Entry_c _).symm)) ?_
        refine OpsOk.cons rfl (OpOk.to (σ2 := St.put ⟨_, (2, (.box .ex (c_api_Entry (T_api_Entry.mk 0 ([] : Str) ([] : Str) ([] : List T_api_Entry))))) :: _⟩ _ .junk) (.storeB rfl sz56 rfl rfl rfl rfl rfl rfl) rfl) ?_
        refine .cv (VOk.asg (d := (.v (.int .i64 41))) rfl rfl) rfl rfl ?_
        exact .done (.rf rfl rfl)
      refine Ok.ret ?_
      obtain rfl := Option.some.inj H
      exact ⟨.inl rfl, ⟨_, (.cons (.cell (VOk.to (d' := (.agg (e_api_Entry (T_api_Entry.mk 0 ([] : Str) ([] : Str) ([] : List T_api_Entry))))) (.loadBAgg rfl Try.underlying56 rfl sz56 rfl rfl rfl) (congrArg D.agg (e_api_Entry_c (T_api_Entry.mk 0 ([] : Str) ([] : Str) ([] : List T_api_Entry))).symm))) (.cons (.tmp rfl) .nil)), rfl⟩, trivial⟩
    · replace H := ifF H hb5
      refine Ok.skip ?_
      refine Ok.seq ?_
      refine Ok.region (σ' := ⟨[(2, (.bref 2 0)), (3, (.v (.int .i64 0)))], [(2, (.box .ex (c_api_Entry t1.1)))]⟩) ?_ ?_
      · refine .cv (VOk.to (d' := (.agg (e_api_Entry t1.1))) (.loadBAgg rfl Try.underlying56 rfl sz56 rfl rfl rfl) (congrArg D.agg (e_api_Entry_c t1.1).symm)) rfl rfl ?_
        refine OpsOk.cut1 21 (.agg [(.v (.int .i64 t1.1.Kind)), (S t1.1.URI), (S t1.1.Name), (L 4 e_api_Entry t1.1.List_)]) (DLe.of_eq (congrArg D.agg (e_api_Entry_c _).symm)) ?_
        refine OpsOk.cons rfl (OpOk.to (σ2 := St.put ⟨_, (2, (.box .ex (c_api_Entry t1.1))) :: _⟩ _ .junk) (.storeB rfl sz56 rfl rfl rfl rfl rfl rfl) rfl) ?_
        refine .cv (VOk.asg (d := (.v (.int .i64 0))) rfl rfl) rfl rfl ?_
        exact .done (.rf rfl rfl)
      refine Ok.ret ?_
      obtain rfl := Option.some.inj H
      exact ⟨.inl rfl, ⟨_, (.cons (.cell (VOk.to (d' := (.agg (e_api_Entry t1.1))) (.loadBAgg rfl Try.underlying56 rfl sz56 rfl rfl rfl) (congrArg D.agg (e_api_Entry_c t1.1).symm))) (.cons (.tmp rfl) .nil)), rfl⟩, trivial⟩

/-! watchbill/services.packages: function 52 -/
def services_packages.l0 (k : Nat) (a0 : T_api_Node) : Nat → List Str → Int → Option ((List Str) × Bool)
  | 0, _, _ => none
  | m5 + 1, y4_2, x12_1 => (if (decide (x12_1 < (a0.Kids.length : Int))) = true then (if (0 : Int) ≤ x12_1 ∧ x12_1 < (a0.Kids.length : Int) then (((if ((((rd a0.Kids x12_1).Kind) == 2) == true) = true then utf_Trim k ((rd a0.Kids x12_1).Text) else some default)).bind fun (t8 : Str) => (if ((((rd a0.Kids x12_1).Kind) == 2) && (!(t8 == ([] : Str)))) = true then some (([] : List Str), false) else (((if ((((rd a0.Kids x12_1).Kind) != 1) == false) = true then services_own ([] : Str) else some default)).bind fun (t12 : T_api_Name) => (if ((((rd a0.Kids x12_1).Kind) != 1) || (!(((rd a0.Kids x12_1).Name.Space) == t12.Space))) = true then services_packages.l0 k a0 m5 y4_2 (IntKind.i64.wrap (x12_1 + 1)) else ((services_said k (rd a0.Kids x12_1)).bind fun (t15 : Str × Bool) => (((if ((!t15.2) == false) = true then services_own ([112, 97, 99, 107, 97, 103, 101] : Str) else some default)).bind fun (t18 : T_api_Name) => (if ((!t15.2) || (!(((rd a0.Kids x12_1).Name).Space == t18.Space && (((rd a0.Kids x12_1).Name).Local == t18.Local && true)))) = true then some (([] : List Str), false) else (if (y4_2.length + ([t15.1] : List Str).length) * 16 ≤ 140737488355328 then services_packages.l0 k a0 m5 (y4_2 ++ ([t15.1] : List Str)) (IntKind.i64.wrap (x12_1 + 1)) else none)))))))) else none) else some (y4_2, true))
def services_packages (k : Nat) (a0 : T_api_Node) : Option ((List Str) × Bool) := services_packages.l0 k a0 k ([] : List Str) 0
theorem services_packages.ok {k : Nat} {a0 : T_api_Node} {r : (List Str) × Bool} (H : services_packages k a0 = some r) : Vx.Fn Try.prog 52 [(.agg (e_api_Node a0))] [] (.tup [(L 1 eS r.1), (.v (.bool r.2))]) [] := by
  unfold services_packages at H
  refine Vx.Fn.of_okR Try.func52 rfl (Nat.le_of_ble_eq_true rfl) ?_
  refine Ok.seq ?_
  refine Ok.region (σ' := ⟨[(1, (.bref 1 0))], [(1, (.box .ex (c_api_Node a0)))]⟩) ?_ ?_
  · refine OpsOk.cut1 0 (.agg [(.v (.int .i64 a0.Kind)), (S a0.Name.Space), (S a0.Name.Local), (L 3 e_api_Attr a0.Attrs), (L 6 e_api_Node a0.Kids), (S a0.Text)]) (DLe.of_eq (congrArg D.agg (e_api_Node_c _).symm)) ?_
    refine OpsOk.cons rfl (OpOk.box 1 (cells := [(.v (.int .i64 a0.Kind)), (S a0.Name.Space), (S a0.Name.Local), (L 3 e_api_Attr a0.Attrs), (L 6 e_api_Node a0.Kids), (S a0.Text)]) rfl rfl rfl rfl) ?_
    refine .cv (VOk.asg (d := (.v (.slice none 0 0))) rfl rfl) rfl rfl ?_
    refine .cv (VOk.asg (d := (.v (.bool false))) rfl rfl) rfl rfl ?_
    exact .done (.rf rfl rfl)
  refine Ok.seq ?_
  refine Ok.region (σ' := ⟨[(1, (.bref 1 0)), (4, (.sref 4))], [(1, (.box .ex (c_api_Node a0))), (4, (.rows true 9 1 (([] : List Str).map eS)))]⟩) ?_ ?_
  · refine OpsOk.cons rfl (.nilT 4 9 1 (.inl rfl) rfl rfl) ?_
    exact .done (.rf rfl rfl)
  refine Ok.seq ?_
  refine Ok.seq ?_
  refine Ok.region (σ' := ⟨[(4, (.sref 4)), (10, (L 6 e_api_Node a0.Kids)), (11, (.v (.int .i64 (a0.Kids.length : Int)))), (12, (.v (.int .i64 0)))], [(4, (.rows true 9 1 (([] : List Str).map eS)))]⟩) ?_ ?_
  · refine .cv (VOk.to (VOk.fieldB rfl Try.underlying27 rfl sz25 rfl rfl) rfl) rfl rfl ?_
    refine .cv (VOk.loadB (d := (L 6 e_api_Node a0.Kids)) rfl Try.underlying25 rfl rfl rfl rfl) rfl rfl ?_
    refine .cv (VOk.lenL (e := e_api_Node) (xs := a0.Kids) rfl Try.underlying25 rfl) rfl rfl ?_
    refine .cv (VOk.mv (d := (.v (.int .i64 0))) rfl rfl) rfl rfl ?_
    exact .done (.rf rfl rfl)
  refine Ok.block ?_
  refine Ok.le (σ' := ⟨[(4, (.sref 4)), (10, (L 6 e_api_Node a0.Kids)), (11, (.v (.int .i64 (a0.Kids.length : Int)))), (12, (.v (.int .i64 0)))], [(4, (.rows true 9 1 (([] : List Str).map eS)))]⟩) (.rf rfl rfl) ?_
  refine Ok.loop (fun m5 σ => ∃ (y4_2 : List Str) (x12_1 : Int), σ = ⟨[(4, (.sref 4)), (10, (L 6 e_api_Node a0.Kids)), (11, (.v (.int .i64 (a0.Kids.length : Int)))), (12, (.v (.int .i64 x12_1)))], [(4, (.rows true 9 1 (y4_2.map eS)))]⟩ ∧ services_packages.l0 k a0 m5 y4_2 x12_1 = some r) k ⟨([] : List Str), 0, rfl, H⟩ ?_
  rintro m5 σ ⟨y4_2, x12_1, rfl, H⟩
  cases m5 with
  | zero => exact absurd H (by simp [services_packages.l0])
  | succ m5 =>
    unfold services_packages.l0 at H
    refine Ok.seq ?_
    refine Ok.region (σ' := ⟨[(4, (.sref 4)), (10, (L 6 e_api_Node a0.Kids)), (11, (.v (.int .i64 (a0.Kids.length : Int)))), (12, (.v (.int .i64 x12_1))), (13, (.v (.bool (decide (x12_1 < (a0.Kids.length : Int))))))], [(4, (.rows true 9 1 (y4_2.map eS)))]⟩) ?_ ?_
    · refine .cv (VOk.arith (op := .lss) (k := .i64) (a := x12_1) (b := (a0.Kids.length : Int)) rfl rfl rfl rfl) rfl rfl ?_
      exact .done (.rf rfl rfl)
    refine Ok.seq ?_
    refine Ok.test (b := (decide (x12_1 < (a0.Kids.length : Int)))) rfl (fun hb25 => ?_) (fun hb25 => ?_)
    · replace H := ifT H hb25
      refine Ok.skip ?_
      refine Ok.seq ?_
      refine Ok.block ?_
      refine Ok.seq ?_
      obtain ⟨c6, H⟩ := assertE H
      refine Ok.region (σ' := ⟨[(4, (.sref 4)), (6, (.bref 6 0)), (10, (L 6 e_api_Node a0.Kids)), (11, (.v (.int .i64 (a0.Kids.length : Int)))), (12, (.v (.int .i64 x12_1)))], [(4, (.rows true 9 1 (y4_2.map eS))), (6, (.box .ex (c_api_Node (rd a0.Kids x12_1))))]⟩) ?_ ?_
      · refine .cv (VOk.indexL (sz := 6) (e := e_api_Node) (xs := a0.Kids) (i := x12_1) rfl Try.underlying25 sz27 rfl rfl c6) rfl rfl ?_
        refine .cv (VOk.to (d' := (.agg (e_api_Node (rd a0.Kids x12_1)))) (.loadFpAgg rfl Try.underlying27 rfl sz27 rfl rfl) rfl) rfl rfl ?_
        refine OpsOk.cons rfl (OpOk.alloc 6 [none, none, none, some 3, some 6, none] rfl zo27 rfl rfl) ?_
        refine OpsOk.cut1 15 (.agg [(.v (.int .i64 ((rd a0.Kids x12_1).Kind))), (S ((rd a0.Kids x12_1).Name.Space)), (S ((rd a0.Kids x12_1).Name.Local)), (L 3 e_api_Attr ((rd a0.Kids x12_1).Attrs)), (L 6 e_api_Node ((rd a0.Kids x12_1).Kids)), (S ((rd a0.Kids x12_1).Text))]) (DLe.of_eq (congrArg D.agg (e_api_Node_c _).symm)) ?_
        refine OpsOk.cons rfl (OpOk.to (σ2 := St.put ⟨_, (6, (.box .ex (c_api_Node (rd a0.Kids x12_1)))) :: _⟩ _ .junk) (.storeB rfl sz27 rfl rfl rfl rfl rfl rfl) rfl) ?_
        exact .done (.rf rfl rfl)
      refine Ok.seq ?_
      refine Ok.block ?_
      refine Ok.seq ?_
      obtain ⟨t8, h9, H⟩ := bindE H
      refine Ok.region (σ' := ⟨[(4, (.sref 4)), (6, (.bref 6 0)), (10, (L 6 e_api_Node a0.Kids)), (11, (.v (.int .i64 (a0.Kids.length : Int)))), (12, (.v (.int .i64 x12_1))), (16, (.v (.bool ((((rd a0.Kids x12_1).Kind) == 2) && (!(t8 == ([] : Str)))))))], [(4, (.rows true 9 1 (y4_2.map eS))), (6, (.box .ex (c_api_Node (rd a0.Kids x12_1))))]⟩) ?_ ?_
      · refine .cv (VOk.to (VOk.fieldB rfl Try.underlying27 rfl sz3 rfl rfl) rfl) rfl rfl ?_
        refine .cv (VOk.loadB (d := (.v (.int .i64 ((rd a0.Kids x12_1).Kind)))) rfl Try.underlying3 rfl rfl rfl rfl) rfl rfl ?_
        refine .cv (VOk.arith (op := .eql) (k := .i64) (a := (rd a0.Kids x12_1).Kind) (b := 2) rfl rfl rfl rfl) rfl rfl ?_
        refine .cv (VOk.mv (d := (.v (.bool (((rd a0.Kids x12_1).Kind) == 2)))) rfl rfl) rfl rfl ?_
        refine OpsOk.consI rfl rfl rfl (.one rfl) rfl (fun hw7 => (VOk.g (VOk.to (VOk.fieldB rfl Try.underlying27 rfl sz9 rfl rfl) rfl))) ?_
        refine OpsOk.consI rfl rfl rfl (.one rfl) rfl (fun hw7 => (GOk.fr (fr' := [(21, (.bref 6 5))]) ⟨DLe.of_eq (cT hw7).symm, trivial⟩ (VOk.g (VOk.loadB (d := (S ((rd a0.Kids x12_1).Text))) rfl Try.underlying9 rfl rfl rfl rfl)))) ?_
        refine OpsOk.consI rfl rfl rfl (.one rfl) rfl (fun hw7 => (GOk.fr (fr' := [(22, (S ((rd a0.Kids x12_1).Text)))]) ⟨DLe.of_eq (cT hw7).symm, trivial⟩ (GOk.call rfl rfl cl25 rfl (utf_Trim.ok (ifT h9 hw7)) rfl))) ?_
        refine OpsOk.consI rfl rfl rfl (.one rfl) rfl (fun hw7 => (GOk.fr (fr' := [(23, (S t8))]) ⟨DLe.of_eq (cT hw7).symm, trivial⟩ (VOk.g (VOk.strOp (op := .neq) (a := t8) (b := ([] : Str)) rfl rfl rfl rfl)))) ?_
        refine .cv (VOk.to (VOk.pickI (b := (((rd a0.Kids x12_1).Kind) == 2)) (p := (!(t8 == ([] : Str)))) (q := false) rfl rfl (fun hp10 => (cT (t_beq hp10))) (fun hp10 => rfl)) (pickAnd (((rd a0.Kids x12_1).Kind) == 2) (!(t8 == ([] : Str))))) rfl rfl ?_
        refine .cv (VOk.asg (d := (.v (.bool ((((rd a0.Kids x12_1).Kind) == 2) && (!(t8 == ([] : Str))))))) rfl rfl) rfl rfl ?_
        exact .done (.rf rfl rfl)
      refine Ok.test (b := ((((rd a0.Kids x12_1).Kind) == 2) && (!(t8 == ([] : Str))))) rfl (fun hb24 => ?_) (fun hb24 => ?_)
      · replace H := ifT H hb24
        refine Ok.seq ?_
        refine Ok.region (σ' := ⟨[(2, (.v (.slice none 0 0))), (3, (.v (.bool false)))], []⟩) ?_ ?_
        · refine .cv (VOk.asg (d := (.v (.slice none 0 0))) rfl rfl) rfl rfl ?_
          refine .cv (VOk.asg (d := (.v (.bool false))) rfl rfl) rfl rfl ?_
          exact .done (.rf rfl rfl)
        refine Ok.le (σ' := ⟨[(2, (L 1 eS ([] : List Str))), (3, (.v (.bool false)))], []⟩) (.mk ⟨.nil _, .same _, trivial⟩ trivial) ?_
        refine Ok.ret ?_
        obtain rfl := Option.some.inj H
        exact ⟨.inl rfl, ⟨_, (.cons (.tmp rfl) (.cons (.tmp rfl) .nil)), rfl⟩, trivial⟩
      · replace H := ifF H hb24
        refine Ok.seq ?_
        obtain ⟨t12, h13, H⟩ := bindE H
        refine Ok.drawE (σ' := ⟨[(4, (.sref 4)), (6, (.bref 6 0)), (10, (L 6 e_api_Node a0.Kids)), (11, (.v (.int .i64 (a0.Kids.length : Int)))), (12, (.v (.int .i64 x12_1))), (26, (.v (.bool ((((rd a0.Kids x12_1).Kind) != 1) || (!(((rd a0.Kids x12_1).Name.Space) == t12.Space))))))], [(4, (.rows true 9 1 (y4_2.map eS))), (6, (.box .ex (c_api_Node (rd a0.Kids x12_1))))]⟩) [⟨true, [(6, (.bref 6 0))], (.bref 6 0)⟩, ⟨true, [(27, (.bref 6 0))], (.v (.int .i64 ((rd a0.Kids x12_1).Kind)))⟩, ⟨true, [(28, (.v (.int .i64 ((rd a0.Kids x12_1).Kind))))], (.v (.bool (((rd a0.Kids x12_1).Kind) != 1)))⟩, ⟨true, [(29, (.v (.bool (((rd a0.Kids x12_1).Kind) != 1))))], (.v (.bool (((rd a0.Kids x12_1).Kind) != 1)))⟩, It.I ((((rd a0.Kids x12_1).Kind) != 1) == false) [(6, (.bref 6 0)), (30, (.v (.bool (((rd a0.Kids x12_1).Kind) != 1))))] (.bref 6 1), It.I ((((rd a0.Kids x12_1).Kind) != 1) == false) [(31, (bif ((((rd a0.Kids x12_1).Kind) != 1) == false) then (.bref 6 1) else .v undef)), (30, (.v (.bool (((rd a0.Kids x12_1).Kind) != 1))))] (.bref 6 1), It.I ((((rd a0.Kids x12_1).Kind) != 1) == false) [(32, (bif ((((rd a0.Kids x12_1).Kind) != 1) == false) then (.bref 6 1) else .v undef)), (30, (.v (.bool (((rd a0.Kids x12_1).Kind) != 1))))] (S ((rd a0.Kids x12_1).Name.Space)), It.I ((((rd a0.Kids x12_1).Kind) != 1) == false) [(30, (.v (.bool (((rd a0.Kids x12_1).Kind) != 1))))] (.agg (e_api_Name t12)), It.I ((((rd a0.Kids x12_1).Kind) != 1) == false) [(34, (bif ((((rd a0.Kids x12_1).Kind) != 1) == false) then (.agg (e_api_Name t12)) else .v undef)), (30, (.v (.bool (((rd a0.Kids x12_1).Kind) != 1))))] (S t12.Space), It.I ((((rd a0.Kids x12_1).Kind) != 1) == false) [(33, (bif ((((rd a0.Kids x12_1).Kind) != 1) == false) then (S ((rd a0.Kids x12_1).Name.Space)) else .v undef)), (35, (bif ((((rd a0.Kids x12_1).Kind) != 1) == false) then (S t12.Space) else .v undef)), (30, (.v (.bool (((rd a0.Kids x12_1).Kind) != 1))))] (.v (.bool (!(((rd a0.Kids x12_1).Name.Space) == t12.Space)))), ⟨true, [(30, (.v (.bool (((rd a0.Kids x12_1).Kind) != 1)))), (36, (bif ((((rd a0.Kids x12_1).Kind) != 1) == false) then (.v (.bool (!(((rd a0.Kids x12_1).Name.Space) == t12.Space)))) else .v undef))], (.v (.bool ((((rd a0.Kids x12_1).Kind) != 1) || (!(((rd a0.Kids x12_1).Name.Space) == t12.Space)))))⟩, ⟨true, [(37, (.v (.bool ((((rd a0.Kids x12_1).Kind) != 1) || (!(((rd a0.Kids x12_1).Name.Space) == t12.Space))))))], (.v (.bool ((((rd a0.Kids x12_1).Kind) != 1) || (!(((rd a0.Kids x12_1).Name.Space) == t12.Space)))))⟩] [[], [0], [1], [2], [3], [3, 4], [3, 5], [3], [3, 7], [3, 6, 8], [3, 9], [10]] mixed (by kernel_rfl) ?_ ?_
        · refine TxtE.cons rfl ⟨.same _, trivial⟩ rfl (VOk.g (VOk.to (VOk.fieldB rfl Try.underlying27 rfl sz3 rfl rfl) rfl)) ?_
          refine TxtE.cons rfl ⟨.same _, trivial⟩ rfl (VOk.g (VOk.loadB (d := (.v (.int .i64 ((rd a0.Kids x12_1).Kind)))) rfl Try.underlying3 rfl rfl rfl rfl)) ?_
          refine TxtE.cons rfl ⟨.same _, trivial⟩ rfl (VOk.g (VOk.arith (op := .neq) (k := .i64) (a := (rd a0.Kids x12_1).Kind) (b := 1) rfl rfl rfl rfl)) ?_
          refine TxtE.cons rfl ⟨.same _, trivial⟩ rfl (VOk.g (VOk.mv (d := (.v (.bool (((rd a0.Kids x12_1).Kind) != 1)))) rfl rfl)) ?_
          refine TxtE.consI rfl ⟨.same _, .same _, trivial⟩ rfl rfl (.one rfl) (fun hw11 => (VOk.g (VOk.to (VOk.fieldB rfl Try.underlying27 rfl sz23 rfl rfl) rfl))) ?_
          refine TxtE.consI rfl ⟨.same _, .same _, trivial⟩ rfl rfl (.one rfl) (fun hw11 => (GOk.fr (fr' := [(31, (.bref 6 1))]) ⟨DLe.of_eq (cT hw11).symm, trivial⟩ (VOk.g (VOk.to (VOk.fieldB rfl Try.underlying23 rfl sz9 rfl rfl) rfl)))) ?_
          refine TxtE.consI rfl ⟨.same _, .same _, trivial⟩ rfl rfl (.one rfl) (fun hw11 => (GOk.fr (fr' := [(32, (.bref 6 1))]) ⟨DLe.of_eq (cT hw11).symm, trivial⟩ (VOk.g (VOk.loadB (d := (S ((rd a0.Kids x12_1).Name.Space))) rfl Try.underlying9 rfl rfl rfl rfl)))) ?_
          refine TxtE.consI rfl ⟨.same _, trivial⟩ rfl rfl (.one rfl) (fun hw11 => (GOk.call rfl rfl cl24 rfl (services_own.ok (ifT h13 hw11)) rfl)) ?_
          refine TxtE.consI rfl ⟨.same _, .same _, trivial⟩ rfl rfl (.one rfl) (fun hw11 => (GOk.fr (fr' := [(34, (.agg (e_api_Name t12)))]) ⟨DLe.of_eq (cT hw11).symm, trivial⟩ (VOk.g (VOk.field (d := (S t12.Space)) rfl Try.underlying23 rfl Try.underlying9 rfl rfl rfl)))) ?_
          refine TxtE.consI rfl ⟨.same _, .same _, .same _, trivial⟩ rfl rfl (.one rfl) (fun hw11 => (GOk.fr (fr' := [(33, (S ((rd a0.Kids x12_1).Name.Space))), (35, (S t12.Space))]) ⟨DLe.of_eq (cT hw11).symm, DLe.of_eq (cT hw11).symm, trivial⟩ (VOk.g (VOk.strOp (op := .neq) (a := (rd a0.Kids x12_1).Name.Space) (b := t12.Space) rfl rfl rfl rfl)))) ?_
          refine TxtE.cons rfl ⟨.same _, .same _, trivial⟩ rfl (VOk.g (VOk.to (VOk.pickI (b := (((rd a0.Kids x12_1).Kind) != 1)) (p := true) (q := (!(((rd a0.Kids x12_1).Name.Space) == t12.Space))) rfl rfl (fun hp14 => rfl) (fun hp14 => (cT (f_beq hp14)))) (pickOr (((rd a0.Kids x12_1).Kind) != 1) (!(((rd a0.Kids x12_1).Name.Space) == t12.Space))))) ?_
          refine TxtE.cons rfl ⟨.same _, trivial⟩ rfl (VOk.g (VOk.asg (d := (.v (.bool ((((rd a0.Kids x12_1).Kind) != 1) || (!(((rd a0.Kids x12_1).Name.Space) == t12.Space)))))) rfl rfl)) ?_
          exact .done (.rf rfl rfl)
        refine Ok.test (b := ((((rd a0.Kids x12_1).Kind) != 1) || (!(((rd a0.Kids x12_1).Name.Space) == t12.Space)))) rfl (fun hb23 => ?_) (fun hb23 => ?_)
        · replace H := ifT H hb23
          refine Ok.exit ?_
          refine Ok.region (σ' := ⟨[(4, (.sref 4)), (10, (L 6 e_api_Node a0.Kids)), (11, (.v (.int .i64 (a0.Kids.length : Int)))), (12, (.v (.int .i64 (IntKind.i64.wrap (x12_1 + 1)))))], [(4, (.rows true 9 1 (y4_2.map eS)))]⟩) ?_ ?_
          · refine .cv (VOk.arith (op := .add) (k := .i64) (a := x12_1) (b := 1) rfl rfl rfl rfl) rfl rfl ?_
            refine .cv (VOk.mv (d := (.v (.int .i64 (IntKind.i64.wrap (x12_1 + 1))))) rfl rfl) rfl rfl ?_
            exact .done (.rf rfl rfl)
          exact ⟨m5, Nat.lt_succ_self m5, y4_2, (IntKind.i64.wrap (x12_1 + 1)), rfl, H⟩
        · replace H := ifF H hb23
          refine Ok.skip ?_
          refine Ok.seq ?_
          obtain ⟨t15, h16, H⟩ := bindE H
          refine Ok.region (σ' := ⟨[(4, (.sref 4)), (6, (.bref 6 0)), (7, (S t15.1)), (8, (.v (.bool t15.2))), (10, (L 6 e_api_Node a0.Kids)), (11, (.v (.int .i64 (a0.Kids.length : Int)))), (12, (.v (.int .i64 x12_1)))], [(4, (.rows true 9 1 (y4_2.map eS))), (6, (.box .ex (c_api_Node (rd a0.Kids x12_1))))]⟩) ?_ ?_
          · refine .cv (VOk.to (d' := (.agg (e_api_Node (rd a0.Kids x12_1)))) (.loadBAgg rfl Try.underlying27 rfl sz27 rfl rfl rfl) (congrArg D.agg (e_api_Node_c (rd a0.Kids x12_1)).symm)) rfl rfl ?_
            refine .cg (GOk.call rfl rfl cl50 rfl (services_said.ok h16) rfl) rfl rfl ?_
            refine .cv (VOk.mv (d := (.tup [(S t15.1), (.v (.bool t15.2))])) rfl rfl) rfl rfl ?_
            refine .cv (VOk.extract (d := (S t15.1)) rfl rfl rfl) rfl rfl ?_
            refine .cv (VOk.extract (d := (.v (.bool t15.2))) rfl rfl rfl) rfl rfl ?_
            refine .cv (VOk.asg (d := (S t15.1)) rfl rfl) rfl rfl ?_
            refine .cv (VOk.asg (d := (.v (.bool t15.2))) rfl rfl) rfl rfl ?_
            exact .done (.rf rfl rfl)
          refine Ok.seq ?_
          refine Ok.seq ?_
          obtain ⟨t18, h19, H⟩ := bindE H
          refine Ok.drawE (σ' := ⟨[(4, (.sref 4)), (7, (S t15.1)), (10, (L 6 e_api_Node a0.Kids)), (11, (.v (.int .i64 (a0.Kids.length : Int)))), (12, (.v (.int .i64 x12_1))), (50, (.v (.bool ((!t15.2) || (!(((rd a0.Kids x12_1).Name).Space == t18.Space && (((rd a0.Kids x12_1).Name).Local == t18.Local && true)))))))], [(4, (.rows true 9 1 (y4_2.map eS)))]⟩) [⟨true, [(8, (.v (.bool t15.2)))], (.v (.bool t15.2))⟩, ⟨true, [(43, (.v (.bool t15.2)))], (.v (.bool (!t15.2)))⟩, ⟨true, [(44, (.v (.bool (!t15.2))))], (.v (.bool (!t15.2)))⟩, It.I ((!t15.2) == false) [(6, (.bref 6 0)), (45, (.v (.bool (!t15.2))))] (.bref 6 1), It.I ((!t15.2) == false) [(46, (bif ((!t15.2) == false) then (.bref 6 1) else .v undef)), (45, (.v (.bool (!t15.2))))] (.agg (e_api_Name ((rd a0.Kids x12_1).Name))), It.I ((!t15.2) == false) [(45, (.v (.bool (!t15.2))))] (.agg (e_api_Name t18)), It.I ((!t15.2) == false) [(47, (bif ((!t15.2) == false) then (.agg (e_api_Name ((rd a0.Kids x12_1).Name))) else .v undef)), (48, (bif ((!t15.2) == false) then (.agg (e_api_Name t18)) else .v undef)), (45, (.v (.bool (!t15.2))))] (.v (.bool (!(((rd a0.Kids x12_1).Name).Space == t18.Space && (((rd a0.Kids x12_1).Name).Local == t18.Local && true))))), ⟨true, [(45, (.v (.bool (!t15.2)))), (49, (bif ((!t15.2) == false) then (.v (.bool (!(((rd a0.Kids x12_1).Name).Space == t18.Space && (((rd a0.Kids x12_1).Name).Local == t18.Local && true))))) else .v undef))], (.v (.bool ((!t15.2) || (!(((rd a0.Kids x12_1).Name).Space == t18.Space && (((rd a0.Kids x12_1).Name).Local == t18.Local && true))))))⟩] [[], [0], [1], [2], [2, 3], [2], [2, 4, 5], [2, 6]] mixed (by kernel_rfl) ?_ ?_
          · refine TxtE.cons rfl ⟨.same _, trivial⟩ rfl (VOk.g (VOk.mv (d := (.v (.bool t15.2))) rfl rfl)) ?_
            refine TxtE.cons rfl ⟨.same _, trivial⟩ rfl (VOk.g (VOk.not (b := t15.2) rfl rfl)) ?_
            refine TxtE.cons rfl ⟨.same _, trivial⟩ rfl (VOk.g (VOk.mv (d := (.v (.bool (!t15.2)))) rfl rfl)) ?_
            refine TxtE.consI rfl ⟨.same _, .same _, trivial⟩ rfl rfl (.one rfl) (fun hw17 => (VOk.g (VOk.to (VOk.fieldB rfl Try.underlying27 rfl sz23 rfl rfl) rfl))) ?_
            refine TxtE.consI rfl ⟨.same _, .same _, trivial⟩ rfl rfl (.one rfl) (fun hw17 => (GOk.fr (fr' := [(46, (.bref 6 1))]) ⟨DLe.of_eq (cT hw17).symm, trivial⟩ (VOk.g (VOk.to (d' := (.agg (e_api_Name ((rd a0.Kids x12_1).Name)))) (.loadBAgg rfl Try.underlying23 rfl sz23 rfl rfl rfl) rfl)))) ?_
            refine TxtE.consI rfl ⟨.same _, trivial⟩ rfl rfl (.one rfl) (fun hw17 => (GOk.call rfl rfl cl24 rfl (services_own.ok (ifT h19 hw17)) rfl)) ?_
            refine TxtE.consI rfl ⟨.same _, .same _, .same _, trivial⟩ rfl rfl (.one rfl) (fun hw17 => (GOk.fr (fr' := [(47, (.agg (e_api_Name ((rd a0.Kids x12_1).Name)))), (48, (.agg (e_api_Name t18)))]) ⟨DLe.of_eq (cT hw17).symm, DLe.of_eq (cT hw17).symm, trivial⟩ (VOk.g (VOk.eqS' (op := .neq) (d := (.v (.bool (!(((rd a0.Kids x12_1).Name).Space == t18.Space && (((rd a0.Kids x12_1).Name).Local == t18.Local && true)))))) rfl (.inr rfl) (eqt23 9998) ag23 eg23 rfl rfl rfl rfl)))) ?_
            refine TxtE.cons rfl ⟨.same _, .same _, trivial⟩ rfl (VOk.g (VOk.to (VOk.pickI (b := (!t15.2)) (p := true) (q := (!(((rd a0.Kids x12_1).Name).Space == t18.Space && (((rd a0.Kids x12_1).Name).Local == t18.Local && true)))) rfl rfl (fun hp20 => rfl) (fun hp20 => (cT (f_beq hp20)))) (pickOr (!t15.2) (!(((rd a0.Kids x12_1).Name).Space == t18.Space && (((rd a0.Kids x12_1).Name).Local == t18.Local && true)))))) ?_
            exact .done (.rf rfl rfl)
          refine Ok.test (b := ((!t15.2) || (!(((rd a0.Kids x12_1).Name).Space == t18.Space && (((rd a0.Kids x12_1).Name).Local == t18.Local && true))))) rfl (fun hb22 => ?_) (fun hb22 => ?_)
          · replace H := ifT H hb22
            refine Ok.seq ?_
            refine Ok.region (σ' := ⟨[(2, (.v (.slice none 0 0))), (3, (.v (.bool false)))], []⟩) ?_ ?_
            · refine .cv (VOk.asg (d := (.v (.slice none 0 0))) rfl rfl) rfl rfl ?_
              refine .cv (VOk.asg (d := (.v (.bool false))) rfl rfl) rfl rfl ?_
              exact .done (.rf rfl rfl)
            refine Ok.le (σ' := ⟨[(2, (L 1 eS ([] : List Str))), (3, (.v (.bool false)))], []⟩) (.mk ⟨.nil _, .same _, trivial⟩ trivial) ?_
            refine Ok.ret ?_
            obtain rfl := Option.some.inj H
            exact ⟨.inl rfl, ⟨_, (.cons (.tmp rfl) (.cons (.tmp rfl) .nil)), rfl⟩, trivial⟩
          · replace H := ifF H hb22
            refine Ok.skip ?_
            obtain ⟨c21, H⟩ := assertE H
            refine Ok.region (σ' := ⟨[(4, (.sref 4)), (10, (L 6 e_api_Node a0.Kids)), (11, (.v (.int .i64 (a0.Kids.length : Int)))), (12, (.v (.int .i64 x12_1)))], [(4, (.rows true 9 1 ((y4_2 ++ ([t15.1] : List Str)).map eS)))]⟩) ?_ ?_
            · refine .cv (VOk.mv (d := (.sref 4)) rfl rfl) rfl rfl ?_
              refine .cv (VOk.mv (d := (S t15.1)) rfl rfl) rfl rfl ?_
              refine .cg (GOk.to (d' := (L 1 eS ([t15.1] : List Str))) (GOk.lit rfl Try.underlying37 sz9 zs9 rfl rfl rfl rfl) rfl) rfl rfl ?_
              refine OpsOk.cons rfl (OpOk.appendL (e := eS) (xs := y4_2) (ys := ([t15.1] : List Str)) rfl Try.underlying37 elt9 rfl rfl rfl c21 rfl) ?_
              refine .cv (VOk.asg (d := (.sref 4)) rfl rfl) rfl rfl ?_
              exact .done (.rf rfl rfl)
            refine Ok.region (σ' := ⟨[(4, (.sref 4)), (10, (L 6 e_api_Node a0.Kids)), (11, (.v (.int .i64 (a0.Kids.length : Int)))), (12, (.v (.int .i64 (IntKind.i64.wrap (x12_1 + 1)))))], [(4, (.rows true 9 1 ((y4_2 ++ ([t15.1] : List Str)).map eS)))]⟩) ?_ ?_
            · refine .cv (VOk.arith (op := .add) (k := .i64) (a := x12_1) (b := 1) rfl rfl rfl rfl) rfl rfl ?_
              refine .cv (VOk.mv (d := (.v (.int .i64 (IntKind.i64.wrap (x12_1 + 1))))) rfl rfl) rfl rfl ?_
              exact .done (.rf rfl rfl)
            exact ⟨m5, Nat.lt_succ_self m5, (y4_2 ++ ([t15.1] : List Str)), (IntKind.i64.wrap (x12_1 + 1)), rfl, H⟩
    · replace H := ifF H hb25
      refine Ok.exit ?_
      refine Ok.seq ?_
      refine Ok.region (σ' := ⟨[(2, (.sref 4)), (3, (.v (.bool true)))], [(4, (.rows true 9 1 (y4_2.map eS)))]⟩) ?_ ?_
      · refine .cv (VOk.mv (d := (.sref 4)) rfl rfl) rfl rfl ?_
        refine .cv (VOk.asg (d := (.sref 4)) rfl rfl) rfl rfl ?_
        refine .cv (VOk.asg (d := (.v (.bool true))) rfl rfl) rfl rfl ?_
        exact .done (.rf rfl rfl)
      refine Ok.frzL 4 (e := eS) (xs := y4_2) rfl ?_
      refine Ok.ret ?_
      obtain rfl := Option.some.inj H
      exact ⟨.inl rfl, ⟨_, (.cons (.tmp rfl) (.cons (.tmp rfl) .nil)), rfl⟩, trivial⟩

/-! watchbill/services.service: function 26 -/
def services_service.g0 (y2_0_18 : Str) (y2_1_19 : List T_api_Entry) (y2_2_20 : Bool) (y2_3_21 : Str) (y2_4_22 : List Str) : Option (T_api_Service × Bool × Bool) := some ((T_api_Service.mk ([] : Str) ([] : List T_api_Entry) false ([] : Str) ([] : List Str)), false, false)
def services_service.g1 (k : Nat) (y2_0_13 : Str) (y2_1_14 : List T_api_Entry) (y2_2_15 : Bool) (y2_3_16 : Str) (y2_4_17 : List Str) (x5_11 : List T_api_Node) (x6_12 : Int) : Option (T_api_Service × Bool × Bool) := (if (1 == (x5_11.length : Int)) = true then some ((T_api_Service.mk y2_0_13 y2_1_14 y2_2_15 y2_3_16 y2_4_17), (x6_12 == 0), true) else (if (0 : Int) ≤ 1 ∧ 1 < (x5_11.length : Int) then ((services_own ([112, 97, 99, 107, 97, 103, 101, 115] : Str)).bind fun (t24 : T_api_Name) => (if ((!(((rd x5_11 1).Name).Space == t24.Space && (((rd x5_11 1).Name).Local == t24.Local && true))) || (decide ((x5_11.length : Int) > 2))) = true then services_service.g0 y2_0_13 y2_1_14 y2_2_15 y2_3_16 y2_4_17 else (if (0 : Int) ≤ 1 ∧ 1 < (x5_11.length : Int) then ((services_packages k (rd x5_11 1)).bind fun (t29 : (List Str) × Bool) => (if (!t29.2) = true then services_service.g0 y2_0_13 y2_1_14 y2_2_15 y2_3_16 t29.1 else some ((T_api_Service.mk y2_0_13 y2_1_14 y2_2_15 y2_3_16 t29.1), (x6_12 == 0), true))) else none))) else none))
def services_service.g2 (k : Nat) (y2_0_2 : Str) (y2_1_3 : List T_api_Entry) (y2_2_4 : Bool) (y2_3_5 : Str) (y2_4_6 : List Str) (y8_0_7 : Int) (y8_1_8 : Str) (y8_2_9 : Str) (y8_3_10 : List T_api_Entry) (x5_1 : List T_api_Node) : Option (T_api_Service × Bool × Bool) := (if (0 : Int) ≤ 0 ∧ 0 < (x5_1.length : Int) then ((lists_DecodeList k (rd x5_1 0)).bind fun (t35 : T_api_Entry × Int) => (if (t35.2 == 40) = true then services_service.g0 y2_0_2 y2_1_3 y2_2_4 y2_3_5 y2_4_6 else (if (1 == (x5_1.length : Int)) = true then some ((T_api_Service.mk y2_0_2 t35.1.List_ true y2_3_5 y2_4_6), (t35.2 == 0), true) else (if (0 : Int) ≤ 1 ∧ 1 < (x5_1.length : Int) then ((services_own ([112, 97, 99, 107, 97, 103, 101, 115] : Str)).bind fun (t38 : T_api_Name) => (if ((!(((rd x5_1 1).Name).Space == t38.Space && (((rd x5_1 1).Name).Local == t38.Local && true))) || (decide ((x5_1.length : Int) > 2))) = true then services_service.g0 y2_0_2 t35.1.List_ true y2_3_5 y2_4_6 else (if (0 : Int) ≤ 1 ∧ 1 < (x5_1.length : Int) then ((services_packages k (rd x5_1 1)).bind fun (t43 : (List Str) × Bool) => (if (!t43.2) = true then services_service.g0 y2_0_2 t35.1.List_ true y2_3_5 t43.1 else some ((T_api_Service.mk y2_0_2 t35.1.List_ true y2_3_5 t43.1), (t35.2 == 0), true))) else none))) else none)))) else none)
def services_service (k : Nat) (a0 : T_api_Node) : Option (T_api_Service × Bool × Bool) := ((services_own ([115, 101, 114, 118, 105, 99, 101] : Str)).bind fun (t49 : T_api_Name) => (if (!(a0.Name.Space == t49.Space && (a0.Name.Local == t49.Local && true))) = true then services_service.g0 ([] : Str) ([] : List T_api_Entry) false ([] : Str) ([] : List Str) else ((tree_Get k a0 (T_api_Name.mk ([] : Str) ([117, 114, 105] : Str))).bind fun (t51 : Str × Bool) => (if (t51.1 == ([] : Str)) = true then services_service.g0 t51.1 ([] : List T_api_Entry) false ([] : Str) ([] : List Str) else ((services_kids k a0).bind fun (t53 : (List T_api_Node) × Bool) => (if ((!t53.2) || ((t53.1.length : Int) == 0)) = true then services_service.g0 t51.1 ([] : List T_api_Entry) false ([] : Str) ([] : List Str) else (if (0 : Int) ≤ 0 ∧ 0 < (t53.1.length : Int) then ((services_list).bind fun (t58 : T_api_Name) => (if (((rd t53.1 0).Name).Space == t58.Space && (((rd t53.1 0).Name).Local == t58.Local && true)) = true then services_service.g2 k t51.1 ([] : List T_api_Entry) false ([] : Str) ([] : List Str) 0 ([] : Str) ([] : Str) ([] : List T_api_Entry) t53.1 else (if (0 : Int) ≤ 0 ∧ 0 < (t53.1.length : Int) then ((services_said k (rd t53.1 0)).bind fun (t61 : Str × Bool) => (if (((!t61.2) == false) = true → (0 : Int) ≤ 0 ∧ 0 < (t53.1.length : Int)) then (((if ((!t61.2) == false) = true then services_own ([114, 101, 115, 111, 117, 114, 99, 101, 45, 108, 105, 115, 116] : Str) else some default)).bind fun (t65 : T_api_Name) => (if ((!t61.2) || (!(((rd t53.1 0).Name).Space == t65.Space && (((rd t53.1 0).Name).Local == t65.Local && true)))) = true then services_service.g0 t51.1 ([] : List T_api_Entry) false t61.1 ([] : List Str) else services_service.g1 k t51.1 ([] : List T_api_Entry) false t61.1 ([] : List Str) t53.1 0)) else none)) else none))) else none)))))))
theorem services_service.ok {k : Nat} {a0 : T_api_Node} {r : T_api_Service × Bool × Bool} (H : services_service k a0 = some r) : Vx.Fn Try.prog 26 [(.agg (e_api_Node a0))] [] (.tup [(.agg (e_api_Service r.1)), (.v (.bool r.2.1)), (.v (.bool r.2.2))]) [] := by
  unfold services_service at H
  refine Vx.Fn.of_okR Try.func26 rfl (Nat.le_of_ble_eq_true rfl) ?_
  refine Ok.seq ?_
  refine Ok.region (σ' := ⟨[(1, (.bref 1 0)), (2, (.bref 2 0))], [(1, (.box .ex (c_api_Node a0))), (2, (.box .ex [(S ([] : Str)), (L 4 e_api_Entry ([] : List T_api_Entry)), (.v (.bool false)), (S ([] : Str)), (L 1 eS ([] : List Str))]))]⟩) ?_ ?_
  · refine OpsOk.cut1 0 (.agg [(.v (.int .i64 a0.Kind)), (S a0.Name.Space), (S a0.Name.Local), (L 3 e_api_Attr a0.Attrs), (L 6 e_api_Node a0.Kids), (S a0.Text)]) (DLe.of_eq (congrArg D.agg (e_api_Node_c _).symm)) ?_
    refine OpsOk.cons rfl (OpOk.box 1 (cells := [(.v (.int .i64 a0.Kind)), (S a0.Name.Space), (S a0.Name.Local), (L 3 e_api_Attr a0.Attrs), (L 6 e_api_Node a0.Kids), (S a0.Text)]) rfl rfl rfl rfl) ?_
    refine OpsOk.cons rfl (OpOk.alloc 2 [none, some 4, none, none, some 1] rfl zo39 rfl rfl) ?_
    refine .cv (VOk.asg (d := (.v (.bool false))) rfl rfl) rfl rfl ?_
    refine .cv (VOk.asg (d := (.v (.bool false))) rfl rfl) rfl rfl ?_
    exact .done (.rf rfl rfl)
  refine Ok.scope (fun l m σ => (l = 1 ∧ m = 2 ∧ ∃ (y2_0_2 : Str), ∃ (y2_1_3 : List T_api_Entry), ∃ (y2_2_4 : Bool), ∃ (y2_3_5 : Str), ∃ (y2_4_6 : List Str), ∃ (y8_0_7 : Int), ∃ (y8_1_8 : Str), ∃ (y8_2_9 : Str), ∃ (y8_3_10 : List T_api_Entry), ∃ (x5_1 : List T_api_Node), σ = ⟨[(2, (.bref 2 0)), (5, (L 6 e_api_Node x5_1)), (8, (.bref 8 0))], [(2, (.box .ex [(S y2_0_2), (L 4 e_api_Entry y2_1_3), (.v (.bool y2_2_4)), (S y2_3_5), (L 1 eS y2_4_6)])), (8, (.box .ex [(.v (.int .i64 y8_0_7)), (S y8_1_8), (S y8_2_9), (L 4 e_api_Entry y8_3_10)]))]⟩ ∧ services_service.g2 k y2_0_2 y2_1_3 y2_2_4 y2_3_5 y2_4_6 y8_0_7 y8_1_8 y8_2_9 y8_3_10 x5_1 = some r) ∨ (l = 2 ∧ m = 1 ∧ ∃ (y2_0_13 : Str), ∃ (y2_1_14 : List T_api_Entry), ∃ (y2_2_15 : Bool), ∃ (y2_3_16 : Str), ∃ (y2_4_17 : List Str), ∃ (x5_11 : List T_api_Node), ∃ (x6_12 : Int), σ = ⟨[(2, (.bref 2 0)), (5, (L 6 e_api_Node x5_11)), (6, (.v (.int .i64 x6_12)))], [(2, (.box .ex [(S y2_0_13), (L 4 e_api_Entry y2_1_14), (.v (.bool y2_2_15)), (S y2_3_16), (L 1 eS y2_4_17)]))]⟩ ∧ services_service.g1 k y2_0_13 y2_1_14 y2_2_15 y2_3_16 y2_4_17 x5_11 x6_12 = some r) ∨ (l = 0 ∧ m = 0 ∧ ∃ (y2_0_18 : Str), ∃ (y2_1_19 : List T_api_Entry), ∃ (y2_2_20 : Bool), ∃ (y2_3_21 : Str), ∃ (y2_4_22 : List Str), σ = ⟨[(2, (.bref 2 0))], [(2, (.box .ex [(S y2_0_18), (L 4 e_api_Entry y2_1_19), (.v (.bool y2_2_20)), (S y2_3_21), (L 1 eS y2_4_22)]))]⟩ ∧ services_service.g0 y2_0_18 y2_1_19 y2_2_20 y2_3_21 y2_4_22 = some r)) 3 ?_ ?_
  · refine Ok.seq ?_
    refine Ok.region (σ' := ⟨[(1, (.bref 1 0)), (2, (.bref 2 0))], [(1, (.box .ex (c_api_Node a0))), (2, (.box .ex [(S ([] : Str)), (L 4 e_api_Entry ([] : List T_api_Entry)), (.v (.bool false)), (S ([] : Str)), (L 1 eS ([] : List Str))]))]⟩) ?_ ?_
    · refine .cv (VOk.asg (d := (.v (.slice none 0 0))) rfl rfl) rfl rfl ?_
      exact .done (.rf rfl rfl)
    refine Ok.seq ?_
    refine Ok.region (σ' := ⟨[(1, (.bref 1 0)), (2, (.bref 2 0))], [(1, (.box .ex (c_api_Node a0))), (2, (.box .ex [(S ([] : Str)), (L 4 e_api_Entry ([] : List T_api_Entry)), (.v (.bool false)), (S ([] : Str)), (L 1 eS ([] : List Str))]))]⟩) ?_ ?_
    · refine .cv (VOk.asg (d := (.v (.int .i64 0))) rfl rfl) rfl rfl ?_
      exact .done (.rf rfl rfl)
    refine Ok.seq ?_
    refine Ok.region (σ' := ⟨[(1, (.bref 1 0)), (2, (.bref 2 0))], [(1, (.box .ex (c_api_Node a0))), (2, (.box .ex [(S ([] : Str)), (L 4 e_api_Entry ([] : List T_api_Entry)), (.v (.bool false)), (S ([] : Str)), (L 1 eS ([] : List Str))]))]⟩) ?_ ?_
    · refine .cv (VOk.asg (d := (.v (.int .i64 0))) rfl rfl) rfl rfl ?_
      exact .done (.rf rfl rfl)
    refine Ok.seq ?_
    refine Ok.region (σ' := ⟨[(1, (.bref 1 0)), (2, (.bref 2 0)), (8, (.bref 8 0))], [(1, (.box .ex (c_api_Node a0))), (2, (.box .ex [(S ([] : Str)), (L 4 e_api_Entry ([] : List T_api_Entry)), (.v (.bool false)), (S ([] : Str)), (L 1 eS ([] : List Str))])), (8, (.box .ex [(.v (.int .i64 0)), (S ([] : Str)), (S ([] : Str)), (L 4 e_api_Entry ([] : List T_api_Entry))]))]⟩) ?_ ?_
    · refine OpsOk.cons rfl (OpOk.alloc 8 [none, none, none, some 4] rfl zo56 rfl rfl) ?_
      exact .done (.rf rfl rfl)
    refine Ok.seq ?_
    refine Ok.seq ?_
    obtain ⟨t49, h50, H⟩ := bindE H
    refine Ok.drawE (σ' := ⟨[(1, (.bref 1 0)), (2, (.bref 2 0)), (8, (.bref 8 0)), (12, (.v (.bool (!(a0.Name.Space == t49.Space && (a0.Name.Local == t49.Local && true))))))], [(1, (.box .ex (c_api_Node a0))), (2, (.box .ex [(S ([] : Str)), (L 4 e_api_Entry ([] : List T_api_Entry)), (.v (.bool false)), (S ([] : Str)), (L 1 eS ([] : List Str))])), (8, (.box .ex [(.v (.int .i64 0)), (S ([] : Str)), (S ([] : Str)), (L 4 e_api_Entry ([] : List T_api_Entry))]))]⟩) [⟨true, [(1, (.bref 1 0))], (.bref 1 1)⟩, ⟨true, [(9, (.bref 1 1))], (.agg (e_api_Name a0.Name))⟩, ⟨true, [], (.agg (e_api_Name t49))⟩, ⟨true, [(10, (.agg (e_api_Name a0.Name))), (11, (.agg (e_api_Name t49)))], (.v (.bool (!(a0.Name.Space == t49.Space && (a0.Name.Local == t49.Local && true)))))⟩] [[], [0], [], [1, 2]] mixed (by kernel_rfl) ?_ ?_
    · refine TxtE.cons rfl ⟨.same _, trivial⟩ rfl (VOk.g (VOk.to (VOk.fieldB rfl Try.underlying27 rfl sz23 rfl rfl) rfl)) ?_
      refine TxtE.cons rfl ⟨.same _, trivial⟩ rfl (VOk.g (VOk.to (d' := (.agg (e_api_Name a0.Name))) (.loadBAgg rfl Try.underlying23 rfl sz23 rfl rfl rfl) rfl)) ?_
      refine TxtE.cons rfl trivial rfl (GOk.call rfl rfl cl24 rfl (services_own.ok h50) rfl) ?_
      refine TxtE.cons rfl ⟨.same _, .same _, trivial⟩ rfl (VOk.g (VOk.eqS' (op := .neq) (d := (.v (.bool (!(a0.Name.Space == t49.Space && (a0.Name.Local == t49.Local && true)))))) rfl (.inr rfl) (eqt23 9998) ag23 eg23 rfl rfl rfl rfl)) ?_
      exact .done (.rf rfl rfl)
    refine Ok.test (b := (!(a0.Name.Space == t49.Space && (a0.Name.Local == t49.Local && true)))) rfl (fun hb72 => ?_) (fun hb72 => ?_)
    · replace H := ifT H hb72
      refine Ok.le (σ' := ⟨[(2, (.bref 2 0))], [(2, (.box .ex [(S ([] : Str)), (L 4 e_api_Entry ([] : List T_api_Entry)), (.v (.bool false)), (S ([] : Str)), (L 1 eS ([] : List Str))]))]⟩) (.rf rfl rfl) ?_
      refine Ok.goto ?_
      exact ⟨0, by decide, (.inr (.inr ⟨rfl, rfl, ([] : Str), ([] : List T_api_Entry), false, ([] : Str), ([] : List Str), rfl, H⟩))⟩
    · replace H := ifF H hb72
      refine Ok.skip ?_
      refine Ok.seq ?_
      refine Ok.seq ?_
      obtain ⟨t51, h52, H⟩ := bindE H
      refine Ok.region (σ' := ⟨[(1, (.bref 1 0)), (2, (.bref 2 0)), (8, (.bref 8 0))], [(1, (.box .ex (c_api_Node a0))), (2, (.box .ex [(S t51.1), (L 4 e_api_Entry ([] : List T_api_Entry)), (.v (.bool false)), (S ([] : Str)), (L 1 eS ([] : List Str))])), (8, (.box .ex [(.v (.int .i64 0)), (S ([] : Str)), (S ([] : Str)), (L 4 e_api_Entry ([] : List T_api_Entry))]))]⟩) ?_ ?_
      · refine .cv (VOk.to (d' := (.agg (e_api_Node a0))) (.loadBAgg rfl Try.underlying27 rfl sz27 rfl rfl rfl) (congrArg D.agg (e_api_Node_c a0).symm)) rfl rfl ?_
        refine .cv (VOk.to (d' := (.agg (e_api_Name (T_api_Name.mk ([] : Str) ([117, 114, 105] : Str))))) (.build [none, none] [(0, 1), (1, 1)] rfl Try.underlying23 (fa23 Try.underlying23) zo23 rfl rfl) rfl) rfl rfl ?_
        refine .cg (GOk.call rfl rfl cl47 rfl (tree_Get.ok h52) rfl) rfl rfl ?_
        refine .cv (VOk.mv (d := (.tup [(S t51.1), (.v (.bool t51.2))])) rfl rfl) rfl rfl ?_
        refine .cv (VOk.extract (d := (S t51.1)) rfl rfl rfl) rfl rfl ?_
        refine .cv (VOk.extract (d := (.v (.bool t51.2))) rfl rfl rfl) rfl rfl ?_
        refine .cv (VOk.to (VOk.fieldB rfl Try.underlying39 rfl sz9 rfl rfl) rfl) rfl rfl ?_
        refine OpsOk.cons rfl (OpOk.to (σ2 := St.put ⟨_, (2, (.box .ex [(S t51.1), (L 4 e_api_Entry ([] : List T_api_Entry)), (.v (.bool false)), (S ([] : Str)), (L 1 eS ([] : List Str))])) :: _⟩ _ .junk) (.storeB rfl sz9 rfl rfl rfl rfl rfl rfl) rfl) ?_
        exact .done (.rf rfl rfl)
      refine Ok.seq ?_
      refine Ok.region (σ' := ⟨[(1, (.bref 1 0)), (2, (.bref 2 0)), (8, (.bref 8 0)), (22, (.v (.bool (t51.1 == ([] : Str)))))], [(1, (.box .ex (c_api_Node a0))), (2, (.box .ex [(S t51.1), (L 4 e_api_Entry ([] : List T_api_Entry)), (.v (.bool false)), (S ([] : Str)), (L 1 eS ([] : List Str))])), (8, (.box .ex [(.v (.int .i64 0)), (S ([] : Str)), (S ([] : Str)), (L 4 e_api_Entry ([] : List T_api_Entry))]))]⟩) ?_ ?_
      · refine .cv (VOk.to (VOk.fieldB rfl Try.underlying39 rfl sz9 rfl rfl) rfl) rfl rfl ?_
        refine .cv (VOk.loadB (d := (S t51.1)) rfl Try.underlying9 rfl rfl rfl rfl) rfl rfl ?_
        refine .cv (VOk.strOp (op := .eql) (a := t51.1) (b := ([] : Str)) rfl rfl rfl rfl) rfl rfl ?_
        exact .done (.rf rfl rfl)
      refine Ok.test (b := (t51.1 == ([] : Str))) rfl (fun hb71 => ?_) (fun hb71 => ?_)
      · replace H := ifT H hb71
        refine Ok.le (σ' := ⟨[(2, (.bref 2 0))], [(2, (.box .ex [(S t51.1), (L 4 e_api_Entry ([] : List T_api_Entry)), (.v (.bool false)), (S ([] : Str)), (L 1 eS ([] : List Str))]))]⟩) (.rf rfl rfl) ?_
        refine Ok.goto ?_
        exact ⟨0, by decide, (.inr (.inr ⟨rfl, rfl, t51.1, ([] : List T_api_Entry), false, ([] : Str), ([] : List Str), rfl, H⟩))⟩
      · replace H := ifF H hb71
        refine Ok.skip ?_
        refine Ok.seq ?_
        refine Ok.seq ?_
        obtain ⟨t53, h54, H⟩ := bindE H
        refine Ok.region (σ' := ⟨[(2, (.bref 2 0)), (4, (.v (.bool t53.2))), (5, (L 6 e_api_Node t53.1)), (8, (.bref 8 0))], [(2, (.box .ex [(S t51.1), (L 4 e_api_Entry ([] : List T_api_Entry)), (.v (.bool false)), (S ([] : Str)), (L 1 eS ([] : List Str))])), (8, (.box .ex [(.v (.int .i64 0)), (S ([] : Str)), (S ([] : Str)), (L 4 e_api_Entry ([] : List T_api_Entry))]))]⟩) ?_ ?_
        · refine .cv (VOk.to (d' := (.agg (e_api_Node a0))) (.loadBAgg rfl Try.underlying27 rfl sz27 rfl rfl rfl) (congrArg D.agg (e_api_Node_c a0).symm)) rfl rfl ?_
          refine .cg (GOk.call rfl rfl cl48 rfl (services_kids.ok h54) rfl) rfl rfl ?_
          refine .cv (VOk.mv (d := (.tup [(L 6 e_api_Node t53.1), (.v (.bool t53.2))])) rfl rfl) rfl rfl ?_
          refine .cv (VOk.extract (d := (L 6 e_api_Node t53.1)) rfl rfl rfl) rfl rfl ?_
          refine .cv (VOk.extract (d := (.v (.bool t53.2))) rfl rfl rfl) rfl rfl ?_
          refine .cv (VOk.asg (d := (L 6 e_api_Node t53.1)) rfl rfl) rfl rfl ?_
          refine .cv (VOk.asg (d := (.v (.bool t53.2))) rfl rfl) rfl rfl ?_
          exact .done (.rf rfl rfl)
        refine Ok.seq ?_
        refine Ok.region (σ' := ⟨[(2, (.bref 2 0)), (5, (L 6 e_api_Node t53.1)), (8, (.bref 8 0)), (34, (.v (.bool ((!t53.2) || ((t53.1.length : Int) == 0)))))], [(2, (.box .ex [(S t51.1), (L 4 e_api_Entry ([] : List T_api_Entry)), (.v (.bool false)), (S ([] : Str)), (L 1 eS ([] : List Str))])), (8, (.box .ex [(.v (.int .i64 0)), (S ([] : Str)), (S ([] : Str)), (L 4 e_api_Entry ([] : List T_api_Entry))]))]⟩) ?_ ?_
        · refine .cv (VOk.mv (d := (.v (.bool t53.2))) rfl rfl) rfl rfl ?_
          refine .cv (VOk.not (b := t53.2) rfl rfl) rfl rfl ?_
          refine .cv (VOk.mv (d := (.v (.bool (!t53.2)))) rfl rfl) rfl rfl ?_
          refine OpsOk.consI rfl rfl rfl (.one rfl) rfl (fun hw55 => (VOk.g (VOk.mv (d := (L 6 e_api_Node t53.1)) rfl rfl))) ?_
          refine OpsOk.consI rfl rfl rfl (.one rfl) rfl (fun hw55 => (GOk.fr (fr' := [(31, (L 6 e_api_Node t53.1))]) ⟨DLe.of_eq (cT hw55).symm, trivial⟩ (VOk.g (VOk.lenL (e := e_api_Node) (xs := t53.1) rfl Try.underlying25 rfl)))) ?_
          refine OpsOk.consI rfl rfl rfl (.one rfl) rfl (fun hw55 => (GOk.fr (fr' := [(32, (.v (.int .i64 (t53.1.length : Int))))]) ⟨DLe.of_eq (cT hw55).symm, trivial⟩ (VOk.g (VOk.arith (op := .eql) (k := .i64) (a := (t53.1.length : Int)) (b := 0) rfl rfl rfl rfl)))) ?_
          refine .cv (VOk.to (VOk.pickI (b := (!t53.2)) (p := true) (q := ((t53.1.length : Int) == 0)) rfl rfl (fun hp56 => rfl) (fun hp56 => (cT (f_beq hp56)))) (pickOr (!t53.2) ((t53.1.length : Int) == 0))) rfl rfl ?_
          exact .done (.rf rfl rfl)
        refine Ok.test (b := ((!t53.2) || ((t53.1.length : Int) == 0))) rfl (fun hb70 => ?_) (fun hb70 => ?_)
        · replace H := ifT H hb70
          refine Ok.le (σ' := ⟨[(2, (.bref 2 0))], [(2, (.box .ex [(S t51.1), (L 4 e_api_Entry ([] : List T_api_Entry)), (.v (.bool false)), (S ([] : Str)), (L 1 eS ([] : List Str))]))]⟩) (.rf rfl rfl) ?_
          refine Ok.goto ?_
          exact ⟨0, by decide, (.inr (.inr ⟨rfl, rfl, t51.1, ([] : List T_api_Entry), false, ([] : Str), ([] : List Str), rfl, H⟩))⟩
        · replace H := ifF H hb70
          refine Ok.skip ?_
          refine Ok.seq ?_
          refine Ok.seq ?_
          obtain ⟨c57, H⟩ := assertE H
          obtain ⟨t58, h59, H⟩ := bindE H
          refine Ok.drawE (σ' := ⟨[(2, (.bref 2 0)), (5, (L 6 e_api_Node t53.1)), (8, (.bref 8 0)), (40, (.v (.bool (((rd t53.1 0).Name).Space == t58.Space && (((rd t53.1 0).Name).Local == t58.Local && true)))))], [(2, (.box .ex [(S t51.1), (L 4 e_api_Entry ([] : List T_api_Entry)), (.v (.bool false)), (S ([] : Str)), (L 1 eS ([] : List Str))])), (8, (.box .ex [(.v (.int .i64 0)), (S ([] : Str)), (S ([] : Str)), (L 4 e_api_Entry ([] : List T_api_Entry))]))]⟩) [⟨true, [(5, (L 6 e_api_Node t53.1))], (L 6 e_api_Node t53.1)⟩, ⟨true, [(35, (L 6 e_api_Node t53.1))], (.fp (e_api_Node (rd t53.1 0)) 0)⟩, ⟨true, [(36, (.fp (e_api_Node (rd t53.1 0)) 0))], (.fp (e_api_Node (rd t53.1 0)) 1)⟩, ⟨true, [(37, (.fp (e_api_Node (rd t53.1 0)) 1))], (.agg (e_api_Name ((rd t53.1 0).Name)))⟩, ⟨true, [], (.agg (e_api_Name t58))⟩, ⟨true, [(38, (.agg (e_api_Name ((rd t53.1 0).Name)))), (39, (.agg (e_api_Name t58)))], (.v (.bool (((rd t53.1 0).Name).Space == t58.Space && (((rd t53.1 0).Name).Local == t58.Local && true))))⟩] [[], [0], [1], [2], [], [3, 4]] mixed (by kernel_rfl) ?_ ?_
          · refine TxtE.cons rfl ⟨.same _, trivial⟩ rfl (VOk.g (VOk.mv (d := (L 6 e_api_Node t53.1)) rfl rfl)) ?_
            refine TxtE.cons rfl ⟨.same _, trivial⟩ rfl (VOk.g (VOk.indexL (sz := 6) (e := e_api_Node) (xs := t53.1) (i := 0) rfl Try.underlying25 sz27 rfl rfl c57)) ?_
            refine TxtE.cons rfl ⟨.same _, trivial⟩ rfl (VOk.g (VOk.to (VOk.fieldFp rfl Try.underlying27 rfl sz23 rfl) rfl)) ?_
            refine TxtE.cons rfl ⟨.same _, trivial⟩ rfl (VOk.g (VOk.to (d' := (.agg (e_api_Name ((rd t53.1 0).Name)))) (.loadFpAgg rfl Try.underlying23 rfl sz23 rfl rfl) rfl)) ?_
            refine TxtE.cons rfl trivial rfl (GOk.call rfl rfl cl49 rfl (services_list.ok h59) rfl) ?_
            refine TxtE.cons rfl ⟨.same _, .same _, trivial⟩ rfl (VOk.g (VOk.eqS' (op := .eql) (d := (.v (.bool (((rd t53.1 0).Name).Space == t58.Space && (((rd t53.1 0).Name).Local == t58.Local && true))))) rfl (.inl rfl) (eqt23 9998) ag23 eg23 rfl rfl rfl rfl)) ?_
            exact .done (.rf rfl rfl)
          refine Ok.test (b := (((rd t53.1 0).Name).Space == t58.Space && (((rd t53.1 0).Name).Local == t58.Local && true))) rfl (fun hb69 => ?_) (fun hb69 => ?_)
          · replace H := ifT H hb69
            refine Ok.le (σ' := ⟨[(2, (.bref 2 0)), (5, (L 6 e_api_Node t53.1)), (8, (.bref 8 0))], [(2, (.box .ex [(S t51.1), (L 4 e_api_Entry ([] : List T_api_Entry)), (.v (.bool false)), (S ([] : Str)), (L 1 eS ([] : List Str))])), (8, (.box .ex [(.v (.int .i64 0)), (S ([] : Str)), (S ([] : Str)), (L 4 e_api_Entry ([] : List T_api_Entry))]))]⟩) (.rf rfl rfl) ?_
            refine Ok.goto ?_
            exact ⟨2, by decide, (.inl ⟨rfl, rfl, t51.1, ([] : List T_api_Entry), false, ([] : Str), ([] : List Str), 0, ([] : Str), ([] : Str), ([] : List T_api_Entry), t53.1, rfl, H⟩)⟩
          · replace H := ifF H hb69
            refine Ok.skip ?_
            refine Ok.seq ?_
            refine Ok.seq ?_
            obtain ⟨c60, H⟩ := assertE H
            obtain ⟨t61, h62, H⟩ := bindE H
            refine Ok.region (σ' := ⟨[(2, (.bref 2 0)), (4, (.v (.bool t61.2))), (5, (L 6 e_api_Node t53.1))], [(2, (.box .ex [(S t51.1), (L 4 e_api_Entry ([] : List T_api_Entry)), (.v (.bool false)), (S t61.1), (L 1 eS ([] : List Str))]))]⟩) ?_ ?_
            · refine .cv (VOk.mv (d := (L 6 e_api_Node t53.1)) rfl rfl) rfl rfl ?_
              refine .cv (VOk.indexL (sz := 6) (e := e_api_Node) (xs := t53.1) (i := 0) rfl Try.underlying25 sz27 rfl rfl c60) rfl rfl ?_
              refine .cv (VOk.to (d' := (.agg (e_api_Node (rd t53.1 0)))) (.loadFpAgg rfl Try.underlying27 rfl sz27 rfl rfl) rfl) rfl rfl ?_
              refine .cg (GOk.call rfl rfl cl50 rfl (services_said.ok h62) rfl) rfl rfl ?_
              refine .cv (VOk.mv (d := (.tup [(S t61.1), (.v (.bool t61.2))])) rfl rfl) rfl rfl ?_
              refine .cv (VOk.extract (d := (S t61.1)) rfl rfl rfl) rfl rfl ?_
              refine .cv (VOk.extract (d := (.v (.bool t61.2))) rfl rfl rfl) rfl rfl ?_
              refine .cv (VOk.to (VOk.fieldB rfl Try.underlying39 rfl sz9 rfl rfl) rfl) rfl rfl ?_
              refine OpsOk.cons rfl (OpOk.to (σ2 := St.put ⟨_, (2, (.box .ex [(S t51.1), (L 4 e_api_Entry ([] : List T_api_Entry)), (.v (.bool false)), (S t61.1), (L 1 eS ([] : List Str))])) :: _⟩ _ .junk) (.storeB rfl sz9 rfl rfl rfl rfl rfl rfl) rfl) ?_
              refine .cv (VOk.asg (d := (.v (.bool t61.2))) rfl rfl) rfl rfl ?_
              exact .done (.rf rfl rfl)
            refine Ok.seq ?_
            obtain ⟨c64, H⟩ := assertE H
            obtain ⟨t65, h66, H⟩ := bindE H
            refine Ok.drawE (σ' := ⟨[(2, (.bref 2 0)), (5, (L 6 e_api_Node t53.1)), (58, (.v (.bool ((!t61.2) || (!(((rd t53.1 0).Name).Space == t65.Space && (((rd t53.1 0).Name).Local == t65.Local && true)))))))], [(2, (.box .ex [(S t51.1), (L 4 e_api_Entry ([] : List T_api_Entry)), (.v (.bool false)), (S t61.1), (L 1 eS ([] : List Str))]))]⟩) [⟨true, [(4, (.v (.bool t61.2)))], (.v (.bool t61.2))⟩, ⟨true, [(49, (.v (.bool t61.2)))], (.v (.bool (!t61.2)))⟩, ⟨true, [(50, (.v (.bool (!t61.2))))], (.v (.bool (!t61.2)))⟩, It.I ((!t61.2) == false) [(5, (L 6 e_api_Node t53.1)), (51, (.v (.bool (!t61.2))))] (L 6 e_api_Node t53.1), It.I ((!t61.2) == false) [(52, (bif ((!t61.2) == false) then (L 6 e_api_Node t53.1) else .v undef)), (51, (.v (.bool (!t61.2))))] (.fp (e_api_Node (rd t53.1 0)) 0), It.I ((!t61.2) == false) [(53, (bif ((!t61.2) == false) then (.fp (e_api_Node (rd t53.1 0)) 0) else .v undef)), (51, (.v (.bool (!t61.2))))] (.fp (e_api_Node (rd t53.1 0)) 1), It.I ((!t61.2) == false) [(54, (bif ((!t61.2) == false) then (.fp (e_api_Node (rd t53.1 0)) 1) else .v undef)), (51, (.v (.bool (!t61.2))))] (.agg (e_api_Name ((rd t53.1 0).Name))), It.I ((!t61.2) == false) [(51, (.v (.bool (!t61.2))))] (.agg (e_api_Name t65)), It.I ((!t61.2) == false) [(55, (bif ((!t61.2) == false) then (.agg (e_api_Name ((rd t53.1 0).Name))) else .v undef)), (56, (bif ((!t61.2) == false) then (.agg (e_api_Name t65)) else .v undef)), (51, (.v (.bool (!t61.2))))] (.v (.bool (!(((rd t53.1 0).Name).Space == t65.Space && (((rd t53.1 0).Name).Local == t65.Local && true))))), ⟨true, [(51, (.v (.bool (!t61.2)))), (57, (bif ((!t61.2) == false) then (.v (.bool (!(((rd t53.1 0).Name).Space == t65.Space && (((rd t53.1 0).Name).Local == t65.Local && true))))) else .v undef))], (.v (.bool ((!t61.2) || (!(((rd t53.1 0).Name).Space == t65.Space && (((rd t53.1 0).Name).Local == t65.Local && true))))))⟩] [[], [0], [1], [2], [2, 3], [2, 4], [2, 5], [2], [2, 6, 7], [2, 8]] mixed (by kernel_rfl) ?_ ?_
            · refine TxtE.cons rfl ⟨.same _, trivial⟩ rfl (VOk.g (VOk.mv (d := (.v (.bool t61.2))) rfl rfl)) ?_
              refine TxtE.cons rfl ⟨.same _, trivial⟩ rfl (VOk.g (VOk.not (b := t61.2) rfl rfl)) ?_
              refine TxtE.cons rfl ⟨.same _, trivial⟩ rfl (VOk.g (VOk.mv (d := (.v (.bool (!t61.2)))) rfl rfl)) ?_
              refine TxtE.consI rfl ⟨.same _, .same _, trivial⟩ rfl rfl (.one rfl) (fun hw63 => (VOk.g (VOk.mv (d := (L 6 e_api_Node t53.1)) rfl rfl))) ?_
              refine TxtE.consI rfl ⟨.same _, .same _, trivial⟩ rfl rfl (.one rfl) (fun hw63 => (GOk.fr (fr' := [(52, (L 6 e_api_Node t53.1))]) ⟨DLe.of_eq (cT hw63).symm, trivial⟩ (VOk.g (VOk.indexL (sz := 6) (e := e_api_Node) (xs := t53.1) (i := 0) rfl Try.underlying25 sz27 rfl rfl (c64 hw63))))) ?_
              refine TxtE.consI rfl ⟨.same _, .same _, trivial⟩ rfl rfl (.one rfl) (fun hw63 => (GOk.fr (fr' := [(53, (.fp (e_api_Node (rd t53.1 0)) 0))]) ⟨DLe.of_eq (cT hw63).symm, trivial⟩ (VOk.g (VOk.to (VOk.fieldFp rfl Try.underlying27 rfl sz23 rfl) rfl)))) ?_
              refine TxtE.consI rfl ⟨.same _, .same _, trivial⟩ rfl rfl (.one rfl) (fun hw63 => (GOk.fr (fr' := [(54, (.fp (e_api_Node (rd t53.1 0)) 1))]) ⟨DLe.of_eq (cT hw63).symm, trivial⟩ (VOk.g (VOk.to (d' := (.agg (e_api_Name ((rd t53.1 0).Name)))) (.loadFpAgg rfl Try.underlying23 rfl sz23 rfl rfl) rfl)))) ?_
              refine TxtE.consI rfl ⟨.same _, trivial⟩ rfl rfl (.one rfl) (fun hw63 => (GOk.call rfl rfl cl24 rfl (services_own.ok (ifT h66 hw63)) rfl)) ?_
              refine TxtE.consI rfl ⟨.same _, .same _, .same _, trivial⟩ rfl rfl (.one rfl) (fun hw63 => (GOk.fr (fr' := [(55, (.agg (e_api_Name ((rd t53.1 0).Name)))), (56, (.agg (e_api_Name t65)))]) ⟨DLe.of_eq (cT hw63).symm, DLe.of_eq (cT hw63).symm, trivial⟩ (VOk.g (VOk.eqS' (op := .neq) (d := (.v (.bool (!(((rd t53.1 0).Name).Space == t65.Space && (((rd t53.1 0).Name).Local == t65.Local && true)))))) rfl (.inr rfl) (eqt23 9998) ag23 eg23 rfl rfl rfl rfl)))) ?_
              refine TxtE.cons rfl ⟨.same _, .same _, trivial⟩ rfl (VOk.g (VOk.to (VOk.pickI (b := (!t61.2)) (p := true) (q := (!(((rd t53.1 0).Name).Space == t65.Space && (((rd t53.1 0).Name).Local == t65.Local && true)))) rfl rfl (fun hp67 => rfl) (fun hp67 => (cT (f_beq hp67)))) (pickOr (!t61.2) (!(((rd t53.1 0).Name).Space == t65.Space && (((rd t53.1 0).Name).Local == t65.Local && true)))))) ?_
              exact .done (.rf rfl rfl)
            refine Ok.test (b := ((!t61.2) || (!(((rd t53.1 0).Name).Space == t65.Space && (((rd t53.1 0).Name).Local == t65.Local && true))))) rfl (fun hb68 => ?_) (fun hb68 => ?_)
            · replace H := ifT H hb68
              refine Ok.le (σ' := ⟨[(2, (.bref 2 0))], [(2, (.box .ex [(S t51.1), (L 4 e_api_Entry ([] : List T_api_Entry)), (.v (.bool false)), (S t61.1), (L 1 eS ([] : List Str))]))]⟩) (.rf rfl rfl) ?_
              refine Ok.goto ?_
              exact ⟨0, by decide, (.inr (.inr ⟨rfl, rfl, t51.1, ([] : List T_api_Entry), false, t61.1, ([] : List Str), rfl, H⟩))⟩
            · replace H := ifF H hb68
              refine Ok.skip ?_
              refine Ok.seq ?_
              refine Ok.region (σ' := ⟨[(2, (.bref 2 0)), (5, (L 6 e_api_Node t53.1)), (6, (.v (.int .i64 0)))], [(2, (.box .ex [(S t51.1), (L 4 e_api_Entry ([] : List T_api_Entry)), (.v (.bool false)), (S t61.1), (L 1 eS ([] : List Str))]))]⟩) ?_ ?_
              · refine .cv (VOk.asg (d := (.v (.int .i64 0))) rfl rfl) rfl rfl ?_
                exact .done (.rf rfl rfl)
              refine Ok.seq ?_
              refine Ok.goto ?_
              exact ⟨1, by decide, (.inr (.inl ⟨rfl, rfl, t51.1, ([] : List T_api_Entry), false, t61.1, ([] : List Str), t53.1, 0, rfl, H⟩))⟩
  · rintro l m σ (⟨rfl, rfl, y2_0_2, y2_1_3, y2_2_4, y2_3_5, y2_4_6, y8_0_7, y8_1_8, y8_2_9, y8_3_10, x5_1, rfl, H⟩ | ⟨rfl, rfl, y2_0_13, y2_1_14, y2_2_15, y2_3_16, y2_4_17, x5_11, x6_12, rfl, H⟩ | ⟨rfl, rfl, y2_0_18, y2_1_19, y2_2_20, y2_3_21, y2_4_22, rfl, H⟩)
    · refine ⟨_, rfl, ?_⟩
      unfold services_service.g2 at H
      refine Ok.seq ?_
      refine Ok.skip ?_
      refine Ok.seq ?_
      refine Ok.seq ?_
      obtain ⟨c34, H⟩ := assertE H
      obtain ⟨t35, h36, H⟩ := bindE H
      refine Ok.region (σ' := ⟨[(2, (.bref 2 0)), (5, (L 6 e_api_Node x5_1)), (6, (.v (.int .i64 t35.2))), (8, (.bref 8 0))], [(2, (.box .ex [(S y2_0_2), (L 4 e_api_Entry y2_1_3), (.v (.bool y2_2_4)), (S y2_3_5), (L 1 eS y2_4_6)])), (8, (.box .ex (c_api_Entry t35.1)))]⟩) ?_ ?_
      · refine .cv (VOk.mv (d := (L 6 e_api_Node x5_1)) rfl rfl) rfl rfl ?_
        refine .cv (VOk.indexL (sz := 6) (e := e_api_Node) (xs := x5_1) (i := 0) rfl Try.underlying25 sz27 rfl rfl c34) rfl rfl ?_
        refine .cv (VOk.to (d' := (.agg (e_api_Node (rd x5_1 0)))) (.loadFpAgg rfl Try.underlying27 rfl sz27 rfl rfl) rfl) rfl rfl ?_
        refine .cg (GOk.call rfl rfl cl51 rfl (lists_DecodeList.ok h36) rfl) rfl rfl ?_
        refine .cv (VOk.mv (d := (.tup [(.agg (e_api_Entry t35.1)), (.v (.int .i64 t35.2))])) rfl rfl) rfl rfl ?_
        refine .cv (VOk.extract (d := (.agg (e_api_Entry t35.1))) rfl rfl rfl) rfl rfl ?_
        refine .cv (VOk.extract (d := (.v (.int .i64 t35.2))) rfl rfl rfl) rfl rfl ?_
        refine OpsOk.cut1 64 (.agg [(.v (.int .i64 t35.1.Kind)), (S t35.1.URI), (S t35.1.Name), (L 4 e_api_Entry t35.1.List_)]) (DLe.of_eq (congrArg D.agg (e_api_Entry_c _).symm)) ?_
        refine OpsOk.cons rfl (OpOk.to (σ2 := St.put ⟨_, (8, (.box .ex (c_api_Entry t35.1))) :: _⟩ _ .junk) (.storeB rfl sz56 rfl rfl rfl rfl rfl rfl) rfl) ?_
        refine .cv (VOk.asg (d := (.v (.int .i64 t35.2))) rfl rfl) rfl rfl ?_
        exact .done (.rf rfl rfl)
      refine Ok.seq ?_
      refine Ok.region (σ' := ⟨[(2, (.bref 2 0)), (5, (L 6 e_api_Node x5_1)), (6, (.v (.int .i64 t35.2))), (8, (.bref 8 0)), (67, (.v (.bool (t35.2 == 40))))], [(2, (.box .ex [(S y2_0_2), (L 4 e_api_Entry y2_1_3), (.v (.bool y2_2_4)), (S y2_3_5), (L 1 eS y2_4_6)])), (8, (.box .ex (c_api_Entry t35.1)))]⟩) ?_ ?_
      · refine .cv (VOk.mv (d := (.v (.int .i64 t35.2))) rfl rfl) rfl rfl ?_
        refine .cv (VOk.arith (op := .eql) (k := .i64) (a := t35.2) (b := 40) rfl rfl rfl rfl) rfl rfl ?_
        exact .done (.rf rfl rfl)
      refine Ok.test (b := (t35.2 == 40)) rfl (fun hb48 => ?_) (fun hb48 => ?_)
      · replace H := ifT H hb48
        refine Ok.le (σ' := ⟨[(2, (.bref 2 0))], [(2, (.box .ex [(S y2_0_2), (L 4 e_api_Entry y2_1_3), (.v (.bool y2_2_4)), (S y2_3_5), (L 1 eS y2_4_6)]))]⟩) (.rf rfl rfl) ?_
        refine Ok.goto ?_
        exact ⟨0, by decide, (.inr (.inr ⟨rfl, rfl, y2_0_2, y2_1_3, y2_2_4, y2_3_5, y2_4_6, rfl, H⟩))⟩
      · replace H := ifF H hb48
        refine Ok.skip ?_
        refine Ok.seq ?_
        refine Ok.le (σ' := ⟨[(2, (.bref 2 0)), (5, (L 6 e_api_Node x5_1)), (6, (.v (.int .i64 t35.2))), (8, (.bref 8 0))], [(2, (.box .ex [(S y2_0_2), (L 4 e_api_Entry y2_1_3), (.v (.bool y2_2_4)), (S y2_3_5), (L 1 eS y2_4_6)])), (8, (.box .ex (c_api_Entry t35.1)))]⟩) (.rf rfl rfl) ?_
        refine Ok.drawE2 (σ' := ⟨[(2, (.bref 2 0)), (5, (L 6 e_api_Node x5_1)), (6, (.v (.int .i64 t35.2)))], [(2, (.box .ex [(S y2_0_2), (L 4 e_api_Entry t35.1.List_), (.v (.bool true)), (S y2_3_5), (L 1 eS y2_4_6)]))]⟩) [⟨true, [(8, (.bref 8 0))], [(8, (.box .ex (c_api_Entry t35.1)))], (.bref 8 3), [], false, []⟩, ⟨true, [(68, (.bref 8 3))], [(8, (.box .ex (c_api_Entry t35.1)))], (L 4 e_api_Entry t35.1.List_), [], false, []⟩, ⟨true, [(2, (.bref 2 0))], [(2, (.box .ex [(S y2_0_2), (L 4 e_api_Entry y2_1_3), (.v (.bool y2_2_4)), (S y2_3_5), (L 1 eS y2_4_6)]))], (.bref 2 2), [], false, []⟩, ⟨true, [(70, (.bref 2 2))], [(2, (.box .ex [(S y2_0_2), (L 4 e_api_Entry y2_1_3), (.v (.bool y2_2_4)), (S y2_3_5), (L 1 eS y2_4_6)]))], .junk, [(2, (.box .ex [(S y2_0_2), (L 4 e_api_Entry y2_1_3), (.v (.bool true)), (S y2_3_5), (L 1 eS y2_4_6)]))], false, []⟩, ⟨true, [(2, (.bref 2 0))], [(2, (.box .ex [(S y2_0_2), (L 4 e_api_Entry y2_1_3), (.v (.bool true)), (S y2_3_5), (L 1 eS y2_4_6)]))], (.bref 2 1), [], false, []⟩, ⟨true, [(71, (.bref 2 1)), (69, (L 4 e_api_Entry t35.1.List_))], [(2, (.box .ex [(S y2_0_2), (L 4 e_api_Entry y2_1_3), (.v (.bool true)), (S y2_3_5), (L 1 eS y2_4_6)]))], .junk, [(2, (.box .ex [(S y2_0_2), (L 4 e_api_Entry t35.1.List_), (.v (.bool true)), (S y2_3_5), (L 1 eS y2_4_6)]))], false, []⟩] [[], [0], [], [2], [3], [1, 2, 3, 4]] mixed (by kernel_rfl) ?_ ?_
        · refine TxtE2.cons ⟨.same _, trivial⟩ ⟨rfl, trivial⟩ (It2.val rfl rfl (fun T hT => (VOk.g (VOk.to (VOk.fieldB rfl Try.underlying56 rfl sz36 rfl hT.1) rfl)))) ?_
          refine TxtE2.cons ⟨.same _, trivial⟩ ⟨rfl, trivial⟩ (It2.val rfl rfl (fun T hT => (VOk.g (VOk.loadB (d := (L 4 e_api_Entry t35.1.List_)) rfl Try.underlying36 rfl rfl hT.1 rfl)))) ?_
          refine TxtE2.cons ⟨.same _, trivial⟩ ⟨rfl, trivial⟩ (It2.val rfl rfl (fun T hT => (VOk.g (VOk.to (VOk.fieldB rfl Try.underlying39 rfl sz4 rfl hT.1) rfl)))) ?_
          refine TxtE2.cons ⟨.same _, trivial⟩ ⟨rfl, trivial⟩ (It2.store rfl rfl sz4 rfl rfl rfl rfl rfl rfl rfl rfl) ?_
          refine TxtE2.cons ⟨.same _, trivial⟩ ⟨rfl, trivial⟩ (It2.val rfl rfl (fun T hT => (VOk.g (VOk.to (VOk.fieldB rfl Try.underlying39 rfl sz36 rfl hT.1) rfl)))) ?_
          refine TxtE2.cons ⟨.same _, .same _, trivial⟩ ⟨rfl, trivial⟩ (It2.store rfl rfl sz36 rfl rfl rfl rfl rfl rfl rfl rfl) ?_
          exact .done (.rf rfl rfl)
        refine Ok.seq ?_
        refine Ok.label ?_
        refine Ok.seq ?_
        refine Ok.region (σ' := ⟨[(2, (.bref 2 0)), (5, (L 6 e_api_Node x5_1)), (6, (.v (.int .i64 t35.2))), (7, (.v (.int .i64 1)))], [(2, (.box .ex [(S y2_0_2), (L 4 e_api_Entry t35.1.List_), (.v (.bool true)), (S y2_3_5), (L 1 eS y2_4_6)]))]⟩) ?_ ?_
        · refine .cv (VOk.asg (d := (.v (.int .i64 1))) rfl rfl) rfl rfl ?_
          exact .done (.rf rfl rfl)
        refine Ok.seq ?_
        refine Ok.seq ?_
        refine Ok.region (σ' := ⟨[(2, (.bref 2 0)), (5, (L 6 e_api_Node x5_1)), (6, (.v (.int .i64 t35.2))), (7, (.v (.int .i64 1))), (75, (.v (.bool (1 == (x5_1.length : Int)))))], [(2, (.box .ex [(S y2_0_2), (L 4 e_api_Entry t35.1.List_), (.v (.bool true)), (S y2_3_5), (L 1 eS y2_4_6)]))]⟩) ?_ ?_
        · refine .cv (VOk.mv (d := (.v (.int .i64 1))) rfl rfl) rfl rfl ?_
          refine .cv (VOk.mv (d := (L 6 e_api_Node x5_1)) rfl rfl) rfl rfl ?_
          refine .cv (VOk.lenL (e := e_api_Node) (xs := x5_1) rfl Try.underlying25 rfl) rfl rfl ?_
          refine .cv (VOk.arith (op := .eql) (k := .i64) (a := 1) (b := (x5_1.length : Int)) rfl rfl rfl rfl) rfl rfl ?_
          exact .done (.rf rfl rfl)
        refine Ok.test (b := (1 == (x5_1.length : Int))) rfl (fun hb47 => ?_) (fun hb47 => ?_)
        · replace H := ifT H hb47
          refine Ok.seq ?_
          refine Ok.region (σ' := ⟨[(2, (.bref 2 0)), (3, (.v (.bool (t35.2 == 0)))), (4, (.v (.bool true)))], [(2, (.box .ex (c_api_Service (T_api_Service.mk y2_0_2 t35.1.List_ true y2_3_5 y2_4_6))))]⟩) ?_ ?_
          · refine .cv (VOk.to (d' := (.agg (e_api_Service (T_api_Service.mk y2_0_2 t35.1.List_ true y2_3_5 y2_4_6)))) (.loadBAgg rfl Try.underlying39 rfl sz39 rfl rfl rfl) rfl) rfl rfl ?_
            refine .cv (VOk.mv (d := (.v (.int .i64 t35.2))) rfl rfl) rfl rfl ?_
            refine .cv (VOk.arith (op := .eql) (k := .i64) (a := t35.2) (b := 0) rfl rfl rfl rfl) rfl rfl ?_
            refine OpsOk.cons rfl (OpOk.to (σ2 := St.put ⟨_, (2, (.box .ex (c_api_Service (T_api_Service.mk y2_0_2 t35.1.List_ true y2_3_5 y2_4_6)))) :: _⟩ _ .junk) (.storeB rfl sz39 rfl rfl rfl rfl rfl rfl) rfl) ?_
            refine .cv (VOk.asg (d := (.v (.bool (t35.2 == 0)))) rfl rfl) rfl rfl ?_
            refine .cv (VOk.asg (d := (.v (.bool true))) rfl rfl) rfl rfl ?_
            exact .done (.rf rfl rfl)
          refine Ok.ret ?_
          obtain rfl := Option.some.inj H
          exact ⟨.inl rfl, ⟨_, (.cons (.cell (VOk.to (d' := (.agg (e_api_Service (T_api_Service.mk y2_0_2 t35.1.List_ true y2_3_5 y2_4_6)))) (.loadBAgg rfl Try.underlying39 rfl sz39 rfl rfl rfl) rfl)) (.cons (.tmp rfl) (.cons (.tmp rfl) .nil))), rfl⟩, trivial⟩
        · replace H := ifF H hb47
          refine Ok.skip ?_
          refine Ok.seq ?_
          refine Ok.seq ?_
          obtain ⟨c37, H⟩ := assertE H
          obtain ⟨t38, h39, H⟩ := bindE H
          refine Ok.drawE (σ' := ⟨[(2, (.bref 2 0)), (5, (L 6 e_api_Node x5_1)), (6, (.v (.int .i64 t35.2))), (7, (.v (.int .i64 1))), (90, (.v (.bool ((!(((rd x5_1 1).Name).Space == t38.Space && (((rd x5_1 1).Name).Local == t38.Local && true))) || (decide ((x5_1.length : Int) > 2))))))], [(2, (.box .ex [(S y2_0_2), (L 4 e_api_Entry t35.1.List_), (.v (.bool true)), (S y2_3_5), (L 1 eS y2_4_6)]))]⟩) [⟨true, [(5, (L 6 e_api_Node x5_1))], (L 6 e_api_Node x5_1)⟩, ⟨true, [(7, (.v (.int .i64 1)))], (.v (.int .i64 1))⟩, ⟨true, [(79, (L 6 e_api_Node x5_1)), (80, (.v (.int .i64 1)))], (.fp (e_api_Node (rd x5_1 1)) 0)⟩, ⟨true, [(81, (.fp (e_api_Node (rd x5_1 1)) 0))], (.fp (e_api_Node (rd x5_1 1)) 1)⟩, ⟨true, [(82, (.fp (e_api_Node (rd x5_1 1)) 1))], (.agg (e_api_Name ((rd x5_1 1).Name)))⟩, ⟨true, [], (.agg (e_api_Name t38))⟩, ⟨true, [(83, (.agg (e_api_Name ((rd x5_1 1).Name)))), (84, (.agg (e_api_Name t38)))], (.v (.bool (!(((rd x5_1 1).Name).Space == t38.Space && (((rd x5_1 1).Name).Local == t38.Local && true)))))⟩, ⟨true, [(85, (.v (.bool (!(((rd x5_1 1).Name).Space == t38.Space && (((rd x5_1 1).Name).Local == t38.Local && true))))))], (.v (.bool (!(((rd x5_1 1).Name).Space == t38.Space && (((rd x5_1 1).Name).Local == t38.Local && true)))))⟩, It.I ((!(((rd x5_1 1).Name).Space == t38.Space && (((rd x5_1 1).Name).Local == t38.Local && true))) == false) [(5, (L 6 e_api_Node x5_1)), (86, (.v (.bool (!(((rd x5_1 1).Name).Space == t38.Space && (((rd x5_1 1).Name).Local == t38.Local && true))))))] (L 6 e_api_Node x5_1), It.I ((!(((rd x5_1 1).Name).Space == t38.Space && (((rd x5_1 1).Name).Local == t38.Local && true))) == false) [(87, (bif ((!(((rd x5_1 1).Name).Space == t38.Space && (((rd x5_1 1).Name).Local == t38.Local && true))) == false) then (L 6 e_api_Node x5_1) else .v undef)), (86, (.v (.bool (!(((rd x5_1 1).Name).Space == t38.Space && (((rd x5_1 1).Name).Local == t38.Local && true))))))] (.v (.int .i64 (x5_1.length : Int))), It.I ((!(((rd x5_1 1).Name).Space == t38.Space && (((rd x5_1 1).Name).Local == t38.Local && true))) == false) [(88, (bif ((!(((rd x5_1 1).Name).Space == t38.Space && (((rd x5_1 1).Name).Local == t38.Local && true))) == false) then (.v (.int .i64 (x5_1.length : Int))) else .v undef)), (86, (.v (.bool (!(((rd x5_1 1).Name).Space == t38.Space && (((rd x5_1 1).Name).Local == t38.Local && true))))))] (.v (.bool (decide ((x5_1.length : Int) > 2)))), ⟨true, [(86, (.v (.bool (!(((rd x5_1 1).Name).Space == t38.Space && (((rd x5_1 1).Name).Local == t38.Local && true)))))), (89, (bif ((!(((rd x5_1 1).Name).Space == t38.Space && (((rd x5_1 1).Name).Local == t38.Local && true))) == false) then (.v (.bool (decide ((x5_1.length : Int) > 2)))) else .v undef))], (.v (.bool ((!(((rd x5_1 1).Name).Space == t38.Space && (((rd x5_1 1).Name).Local == t38.Local && true))) || (decide ((x5_1.length : Int) > 2)))))⟩] [[], [], [0, 1], [2], [3], [], [4, 5], [6], [7], [7, 8], [7, 9], [7, 10]] mixed (by kernel_rfl) ?_ ?_
          · refine TxtE.cons rfl ⟨.same _, trivial⟩ rfl (VOk.g (VOk.mv (d := (L 6 e_api_Node x5_1)) rfl rfl)) ?_
            refine TxtE.cons rfl ⟨.same _, trivial⟩ rfl (VOk.g (VOk.mv (d := (.v (.int .i64 1))) rfl rfl)) ?_
            refine TxtE.cons rfl ⟨.same _, .same _, trivial⟩ rfl (VOk.g (VOk.indexL (sz := 6) (e := e_api_Node) (xs := x5_1) (i := 1) rfl Try.underlying25 sz27 rfl rfl c37)) ?_
            refine TxtE.cons rfl ⟨.same _, trivial⟩ rfl (VOk.g (VOk.to (VOk.fieldFp rfl Try.underlying27 rfl sz23 rfl) rfl)) ?_
            refine TxtE.cons rfl ⟨.same _, trivial⟩ rfl (VOk.g (VOk.to (d' := (.agg (e_api_Name ((rd x5_1 1).Name)))) (.loadFpAgg rfl Try.underlying23 rfl sz23 rfl rfl) rfl)) ?_
            refine TxtE.cons rfl trivial rfl (GOk.call rfl rfl cl24 rfl (services_own.ok h39) rfl) ?_
            refine TxtE.cons rfl ⟨.same _, .same _, trivial⟩ rfl (VOk.g (VOk.eqS' (op := .neq) (d := (.v (.bool (!(((rd x5_1 1).Name).Space == t38.Space && (((rd x5_1 1).Name).Local == t38.Local && true)))))) rfl (.inr rfl) (eqt23 9998) ag23 eg23 rfl rfl rfl rfl)) ?_
            refine TxtE.cons rfl ⟨.same _, trivial⟩ rfl (VOk.g (VOk.mv (d := (.v (.bool (!(((rd x5_1 1).Name).Space == t38.Space && (((rd x5_1 1).Name).Local == t38.Local && true)))))) rfl rfl)) ?_
            refine TxtE.consI rfl ⟨.same _, .same _, trivial⟩ rfl rfl (.one rfl) (fun hw40 => (VOk.g (VOk.mv (d := (L 6 e_api_Node x5_1)) rfl rfl))) ?_
            refine TxtE.consI rfl ⟨.same _, .same _, trivial⟩ rfl rfl (.one rfl) (fun hw40 => (GOk.fr (fr' := [(87, (L 6 e_api_Node x5_1))]) ⟨DLe.of_eq (cT hw40).symm, trivial⟩ (VOk.g (VOk.lenL (e := e_api_Node) (xs := x5_1) rfl Try.underlying25 rfl)))) ?_
            refine TxtE.consI rfl ⟨.same _, .same _, trivial⟩ rfl rfl (.one rfl) (fun hw40 => (GOk.fr (fr' := [(88, (.v (.int .i64 (x5_1.length : Int))))]) ⟨DLe.of_eq (cT hw40).symm, trivial⟩ (VOk.g (VOk.arith (op := .gtr) (k := .i64) (a := (x5_1.length : Int)) (b := 2) rfl rfl rfl rfl)))) ?_
            refine TxtE.cons rfl ⟨.same _, .same _, trivial⟩ rfl (VOk.g (VOk.to (VOk.pickI (b := (!(((rd x5_1 1).Name).Space == t38.Space && (((rd x5_1 1).Name).Local == t38.Local && true)))) (p := true) (q := (decide ((x5_1.length : Int) > 2))) rfl rfl (fun hp41 => rfl) (fun hp41 => (cT (f_beq hp41)))) (pickOr (!(((rd x5_1 1).Name).Space == t38.Space && (((rd x5_1 1).Name).Local == t38.Local && true))) (decide ((x5_1.length : Int) > 2))))) ?_
            exact .done (.rf rfl rfl)
          refine Ok.test (b := ((!(((rd x5_1 1).Name).Space == t38.Space && (((rd x5_1 1).Name).Local == t38.Local && true))) || (decide ((x5_1.length : Int) > 2)))) rfl (fun hb46 => ?_) (fun hb46 => ?_)
          · replace H := ifT H hb46
            refine Ok.le (σ' := ⟨[(2, (.bref 2 0))], [(2, (.box .ex [(S y2_0_2), (L 4 e_api_Entry t35.1.List_), (.v (.bool true)), (S y2_3_5), (L 1 eS y2_4_6)]))]⟩) (.rf rfl rfl) ?_
            refine Ok.goto ?_
            exact ⟨0, by decide, (.inr (.inr ⟨rfl, rfl, y2_0_2, t35.1.List_, true, y2_3_5, y2_4_6, rfl, H⟩))⟩
          · replace H := ifF H hb46
            refine Ok.skip ?_
            refine Ok.seq ?_
            refine Ok.seq ?_
            obtain ⟨c42, H⟩ := assertE H
            obtain ⟨t43, h44, H⟩ := bindE H
            refine Ok.region (σ' := ⟨[(2, (.bref 2 0)), (4, (.v (.bool t43.2))), (6, (.v (.int .i64 t35.2)))], [(2, (.box .ex [(S y2_0_2), (L 4 e_api_Entry t35.1.List_), (.v (.bool true)), (S y2_3_5), (L 1 eS t43.1)]))]⟩) ?_ ?_
            · refine .cv (VOk.mv (d := (L 6 e_api_Node x5_1)) rfl rfl) rfl rfl ?_
              refine .cv (VOk.mv (d := (.v (.int .i64 1))) rfl rfl) rfl rfl ?_
              refine .cv (VOk.indexL (sz := 6) (e := e_api_Node) (xs := x5_1) (i := 1) rfl Try.underlying25 sz27 rfl rfl c42) rfl rfl ?_
              refine .cv (VOk.to (d' := (.agg (e_api_Node (rd x5_1 1)))) (.loadFpAgg rfl Try.underlying27 rfl sz27 rfl rfl) rfl) rfl rfl ?_
              refine .cg (GOk.call rfl rfl cl52 rfl (services_packages.ok h44) rfl) rfl rfl ?_
              refine .cv (VOk.mv (d := (.tup [(L 1 eS t43.1), (.v (.bool t43.2))])) rfl rfl) rfl rfl ?_
              refine .cv (VOk.extract (d := (L 1 eS t43.1)) rfl rfl rfl) rfl rfl ?_
              refine .cv (VOk.extract (d := (.v (.bool t43.2))) rfl rfl rfl) rfl rfl ?_
              refine .cv (VOk.to (VOk.fieldB rfl Try.underlying39 rfl sz37 rfl rfl) rfl) rfl rfl ?_
              refine OpsOk.cons rfl (OpOk.to (σ2 := St.put ⟨_, (2, (.box .ex [(S y2_0_2), (L 4 e_api_Entry t35.1.List_), (.v (.bool true)), (S y2_3_5), (L 1 eS t43.1)])) :: _⟩ _ .junk) (.storeB rfl sz37 rfl rfl rfl rfl rfl rfl) rfl) ?_
              refine .cv (VOk.asg (d := (.v (.bool t43.2))) rfl rfl) rfl rfl ?_
              exact .done (.rf rfl rfl)
            refine Ok.seq ?_
            refine Ok.region (σ' := ⟨[(2, (.bref 2 0)), (6, (.v (.int .i64 t35.2))), (101, (.v (.bool (!t43.2))))], [(2, (.box .ex [(S y2_0_2), (L 4 e_api_Entry t35.1.List_), (.v (.bool true)), (S y2_3_5), (L 1 eS t43.1)]))]⟩) ?_ ?_
            · refine .cv (VOk.mv (d := (.v (.bool t43.2))) rfl rfl) rfl rfl ?_
              refine .cv (VOk.not (b := t43.2) rfl rfl) rfl rfl ?_
              exact .done (.rf rfl rfl)
            refine Ok.test (b := (!t43.2)) rfl (fun hb45 => ?_) (fun hb45 => ?_)
            · replace H := ifT H hb45
              refine Ok.le (σ' := ⟨[(2, (.bref 2 0))], [(2, (.box .ex [(S y2_0_2), (L 4 e_api_Entry t35.1.List_), (.v (.bool true)), (S y2_3_5), (L 1 eS t43.1)]))]⟩) (.rf rfl rfl) ?_
              refine Ok.goto ?_
              exact ⟨0, by decide, (.inr (.inr ⟨rfl, rfl, y2_0_2, t35.1.List_, true, y2_3_5, t43.1, rfl, H⟩))⟩
            · replace H := ifF H hb45
              refine Ok.skip ?_
              refine Ok.seq ?_
              refine Ok.seq ?_
              refine Ok.region (σ' := ⟨[(2, (.bref 2 0)), (3, (.v (.bool (t35.2 == 0)))), (4, (.v (.bool true)))], [(2, (.box .ex (c_api_Service (T_api_Service.mk y2_0_2 t35.1.List_ true y2_3_5 t43.1))))]⟩) ?_ ?_
              · refine .cv (VOk.to (d' := (.agg (e_api_Service (T_api_Service.mk y2_0_2 t35.1.List_ true y2_3_5 t43.1)))) (.loadBAgg rfl Try.underlying39 rfl sz39 rfl rfl rfl) rfl) rfl rfl ?_
                refine .cv (VOk.mv (d := (.v (.int .i64 t35.2))) rfl rfl) rfl rfl ?_
                refine .cv (VOk.arith (op := .eql) (k := .i64) (a := t35.2) (b := 0) rfl rfl rfl rfl) rfl rfl ?_
                refine OpsOk.cons rfl (OpOk.to (σ2 := St.put ⟨_, (2, (.box .ex (c_api_Service (T_api_Service.mk y2_0_2 t35.1.List_ true y2_3_5 t43.1)))) :: _⟩ _ .junk) (.storeB rfl sz39 rfl rfl rfl rfl rfl rfl) rfl) ?_
                refine .cv (VOk.asg (d := (.v (.bool (t35.2 == 0)))) rfl rfl) rfl rfl ?_
                refine .cv (VOk.asg (d := (.v (.bool true))) rfl rfl) rfl rfl ?_
                exact .done (.rf rfl rfl)
              refine Ok.ret ?_
              obtain rfl := Option.some.inj H
              exact ⟨.inl rfl, ⟨_, (.cons (.cell (VOk.to (d' := (.agg (e_api_Service (T_api_Service.mk y2_0_2 t35.1.List_ true y2_3_5 t43.1)))) (.loadBAgg rfl Try.underlying39 rfl sz39 rfl rfl rfl) rfl)) (.cons (.tmp rfl) (.cons (.tmp rfl) .nil))), rfl⟩, trivial⟩
    · refine ⟨_, rfl, ?_⟩
      unfold services_service.g1 at H
      refine Ok.seq ?_
      refine Ok.skip ?_
      refine Ok.seq ?_
      refine Ok.region (σ' := ⟨[(2, (.bref 2 0)), (5, (L 6 e_api_Node x5_11)), (6, (.v (.int .i64 x6_12))), (7, (.v (.int .i64 1)))], [(2, (.box .ex [(S y2_0_13), (L 4 e_api_Entry y2_1_14), (.v (.bool y2_2_15)), (S y2_3_16), (L 1 eS y2_4_17)]))]⟩) ?_ ?_
      · refine .cv (VOk.asg (d := (.v (.int .i64 1))) rfl rfl) rfl rfl ?_
        exact .done (.rf rfl rfl)
      refine Ok.seq ?_
      refine Ok.seq ?_
      refine Ok.region (σ' := ⟨[(2, (.bref 2 0)), (5, (L 6 e_api_Node x5_11)), (6, (.v (.int .i64 x6_12))), (7, (.v (.int .i64 1))), (75, (.v (.bool (1 == (x5_11.length : Int)))))], [(2, (.box .ex [(S y2_0_13), (L 4 e_api_Entry y2_1_14), (.v (.bool y2_2_15)), (S y2_3_16), (L 1 eS y2_4_17)]))]⟩) ?_ ?_
      · refine .cv (VOk.mv (d := (.v (.int .i64 1))) rfl rfl) rfl rfl ?_
        refine .cv (VOk.mv (d := (L 6 e_api_Node x5_11)) rfl rfl) rfl rfl ?_
        refine .cv (VOk.lenL (e := e_api_Node) (xs := x5_11) rfl Try.underlying25 rfl) rfl rfl ?_
        refine .cv (VOk.arith (op := .eql) (k := .i64) (a := 1) (b := (x5_11.length : Int)) rfl rfl rfl rfl) rfl rfl ?_
        exact .done (.rf rfl rfl)
      refine Ok.test (b := (1 == (x5_11.length : Int))) rfl (fun hb33 => ?_) (fun hb33 => ?_)
      · replace H := ifT H hb33
        refine Ok.seq ?_
        refine Ok.region (σ' := ⟨[(2, (.bref 2 0)), (3, (.v (.bool (x6_12 == 0)))), (4, (.v (.bool true)))], [(2, (.box .ex (c_api_Service (T_api_Service.mk y2_0_13 y2_1_14 y2_2_15 y2_3_16 y2_4_17))))]⟩) ?_ ?_
        · refine .cv (VOk.to (d' := (.agg (e_api_Service (T_api_Service.mk y2_0_13 y2_1_14 y2_2_15 y2_3_16 y2_4_17)))) (.loadBAgg rfl Try.underlying39 rfl sz39 rfl rfl rfl) rfl) rfl rfl ?_
          refine .cv (VOk.mv (d := (.v (.int .i64 x6_12))) rfl rfl) rfl rfl ?_
          refine .cv (VOk.arith (op := .eql) (k := .i64) (a := x6_12) (b := 0) rfl rfl rfl rfl) rfl rfl ?_
          refine OpsOk.cons rfl (OpOk.to (σ2 := St.put ⟨_, (2, (.box .ex (c_api_Service (T_api_Service.mk y2_0_13 y2_1_14 y2_2_15 y2_3_16 y2_4_17)))) :: _⟩ _ .junk) (.storeB rfl sz39 rfl rfl rfl rfl rfl rfl) rfl) ?_
          refine .cv (VOk.asg (d := (.v (.bool (x6_12 == 0)))) rfl rfl) rfl rfl ?_
          refine .cv (VOk.asg (d := (.v (.bool true))) rfl rfl) rfl rfl ?_
          exact .done (.rf rfl rfl)
        refine Ok.ret ?_
        obtain rfl := Option.some.inj H
        exact ⟨.inl rfl, ⟨_, (.cons (.cell (VOk.to (d' := (.agg (e_api_Service (T_api_Service.mk y2_0_13 y2_1_14 y2_2_15 y2_3_16 y2_4_17)))) (.loadBAgg rfl Try.underlying39 rfl sz39 rfl rfl rfl) rfl)) (.cons (.tmp rfl) (.cons (.tmp rfl) .nil))), rfl⟩, trivial⟩
      · replace H := ifF H hb33
        refine Ok.skip ?_
        refine Ok.seq ?_
        refine Ok.seq ?_
        obtain ⟨c23, H⟩ := assertE H
        obtain ⟨t24, h25, H⟩ := bindE H
        refine Ok.drawE (σ' := ⟨[(2, (.bref 2 0)), (5, (L 6 e_api_Node x5_11)), (6, (.v (.int .i64 x6_12))), (7, (.v (.int .i64 1))), (90, (.v (.bool ((!(((rd x5_11 1).Name).Space == t24.Space && (((rd x5_11 1).Name).Local == t24.Local && true))) || (decide ((x5_11.length : Int) > 2))))))], [(2, (.box .ex [(S y2_0_13), (L 4 e_api_Entry y2_1_14), (.v (.bool y2_2_15)), (S y2_3_16), (L 1 eS y2_4_17)]))]⟩) [⟨true, [(5, (L 6 e_api_Node x5_11))], (L 6 e_api_Node x5_11)⟩, ⟨true, [(7, (.v (.int .i64 1)))], (.v (.int .i64 1))⟩, ⟨true, [(79, (L 6 e_api_Node x5_11)), (80, (.v (.int .i64 1)))], (.fp (e_api_Node (rd x5_11 1)) 0)⟩, ⟨true, [(81, (.fp (e_api_Node (rd x5_11 1)) 0))], (.fp (e_api_Node (rd x5_11 1)) 1)⟩, ⟨true, [(82, (.fp (e_api_Node (rd x5_11 1)) 1))], (.agg (e_api_Name ((rd x5_11 1).Name)))⟩, ⟨true, [], (.agg (e_api_Name t24))⟩, ⟨true, [(83, (.agg (e_api_Name ((rd x5_11 1).Name)))), (84, (.agg (e_api_Name t24)))], (.v (.bool (!(((rd x5_11 1).Name).Space == t24.Space && (((rd x5_11 1).Name).Local == t24.Local && true)))))⟩, ⟨true, [(85, (.v (.bool (!(((rd x5_11 1).Name).Space == t24.Space && (((rd x5_11 1).Name).Local == t24.Local && true))))))], (.v (.bool (!(((rd x5_11 1).Name).Space == t24.Space && (((rd x5_11 1).Name).Local == t24.Local && true)))))⟩, It.I ((!(((rd x5_11 1).Name).Space == t24.Space && (((rd x5_11 1).Name).Local == t24.Local && true))) == false) [(5, (L 6 e_api_Node x5_11)), (86, (.v (.bool (!(((rd x5_11 1).Name).Space == t24.Space && (((rd x5_11 1).Name).Local == t24.Local && true))))))] (L 6 e_api_Node x5_11), It.I ((!(((rd x5_11 1).Name).Space == t24.Space && (((rd x5_11 1).Name).Local == t24.Local && true))) == false) [(87, (bif ((!(((rd x5_11 1).Name).Space == t24.Space && (((rd x5_11 1).Name).Local == t24.Local && true))) == false) then (L 6 e_api_Node x5_11) else .v undef)), (86, (.v (.bool (!(((rd x5_11 1).Name).Space == t24.Space && (((rd x5_11 1).Name).Local == t24.Local && true))))))] (.v (.int .i64 (x5_11.length : Int))), It.I ((!(((rd x5_11 1).Name).Space == t24.Space && (((rd x5_11 1).Name).Local == t24.Local && true))) == false) [(88, (bif ((!(((rd x5_11 1).Name).Space == t24.Space && (((rd x5_11 1).Name).Local == t24.Local && true))) == false) then (.v (.int .i64 (x5_11.length : Int))) else .v undef)), (86, (.v (.bool (!(((rd x5_11 1).Name).Space == t24.Space && (((rd x5_11 1).Name).Local == t24.Local && true))))))] (.v (.bool (decide ((x5_11.length : Int) > 2)))), ⟨true, [(86, (.v (.bool (!(((rd x5_11 1).Name).Space == t24.Space && (((rd x5_11 1).Name).Local == t24.Local && true)))))), (89, (bif ((!(((rd x5_11 1).Name).Space == t24.Space && (((rd x5_11 1).Name).Local == t24.Local && true))) == false) then (.v (.bool (decide ((x5_11.length : Int) > 2)))) else .v undef))], (.v (.bool ((!(((rd x5_11 1).Name).Space == t24.Space && (((rd x5_11 1).Name).Local == t24.Local && true))) || (decide ((x5_11.length : Int) > 2)))))⟩] [[], [], [0, 1], [2], [3], [], [4, 5], [6], [7], [7, 8], [7, 9], [7, 10]] mixed (by kernel_rfl) ?_ ?_
        · refine TxtE.cons rfl ⟨.same _, trivial⟩ rfl (VOk.g (VOk.mv (d := (L 6 e_api_Node x5_11)) rfl rfl)) ?_
          refine TxtE.cons rfl ⟨.same _, trivial⟩ rfl (VOk.g (VOk.mv (d := (.v (.int .i64 1))) rfl rfl)) ?_
          refine TxtE.cons rfl ⟨.same _, .same _, trivial⟩ rfl (VOk.g (VOk.indexL (sz := 6) (e := e_api_Node) (xs := x5_11) (i := 1) rfl Try.underlying25 sz27 rfl rfl c23)) ?_
          refine TxtE.cons rfl ⟨.same _, trivial⟩ rfl (VOk.g (VOk.to (VOk.fieldFp rfl Try.underlying27 rfl sz23 rfl) rfl)) ?_
          refine TxtE.cons rfl ⟨.same _, trivial⟩ rfl (VOk.g (VOk.to (d' := (.agg (e_api_Name ((rd x5_11 1).Name)))) (.loadFpAgg rfl Try.underlying23 rfl sz23 rfl rfl) rfl)) ?_
          refine TxtE.cons rfl trivial rfl (GOk.call rfl rfl cl24 rfl (services_own.ok h25) rfl) ?_
          refine TxtE.cons rfl ⟨.same _, .same _, trivial⟩ rfl (VOk.g (VOk.eqS' (op := .neq) (d := (.v (.bool (!(((rd x5_11 1).Name).Space == t24.Space && (((rd x5_11 1).Name).Local == t24.Local && true)))))) rfl (.inr rfl) (eqt23 9998) ag23 eg23 rfl rfl rfl rfl)) ?_
          refine TxtE.cons rfl ⟨.same _, trivial⟩ rfl (VOk.g (VOk.mv (d := (.v (.bool (!(((rd x5_11 1).Name).Space == t24.Space && (((rd x5_11 1).Name).Local == t24.Local && true)))))) rfl rfl)) ?_
          refine TxtE.consI rfl ⟨.same _, .same _, trivial⟩ rfl rfl (.one rfl) (fun hw26 => (VOk.g (VOk.mv (d := (L 6 e_api_Node x5_11)) rfl rfl))) ?_
          refine TxtE.consI rfl ⟨.same _, .same _, trivial⟩ rfl rfl (.one rfl) (fun hw26 => (GOk.fr (fr' := [(87, (L 6 e_api_Node x5_11))]) ⟨DLe.of_eq (cT hw26).symm, trivial⟩ (VOk.g (VOk.lenL (e := e_api_Node) (xs := x5_11) rfl Try.underlying25 rfl)))) ?_
          refine TxtE.consI rfl ⟨.same _, .same _, trivial⟩ rfl rfl (.one rfl) (fun hw26 => (GOk.fr (fr' := [(88, (.v (.int .i64 (x5_11.length : Int))))]) ⟨DLe.of_eq (cT hw26).symm, trivial⟩ (VOk.g (VOk.arith (op := .gtr) (k := .i64) (a := (x5_11.length : Int)) (b := 2) rfl rfl rfl rfl)))) ?_
          refine TxtE.cons rfl ⟨.same _, .same _, trivial⟩ rfl (VOk.g (VOk.to (VOk.pickI (b := (!(((rd x5_11 1).Name).Space == t24.Space && (((rd x5_11 1).Name).Local == t24.Local && true)))) (p := true) (q := (decide ((x5_11.length : Int) > 2))) rfl rfl (fun hp27 => rfl) (fun hp27 => (cT (f_beq hp27)))) (pickOr (!(((rd x5_11 1).Name).Space == t24.Space && (((rd x5_11 1).Name).Local == t24.Local && true))) (decide ((x5_11.length : Int) > 2))))) ?_
          exact .done (.rf rfl rfl)
        refine Ok.test (b := ((!(((rd x5_11 1).Name).Space == t24.Space && (((rd x5_11 1).Name).Local == t24.Local && true))) || (decide ((x5_11.length : Int) > 2)))) rfl (fun hb32 => ?_) (fun hb32 => ?_)
        · replace H := ifT H hb32
          refine Ok.le (σ' := ⟨[(2, (.bref 2 0))], [(2, (.box .ex [(S y2_0_13), (L 4 e_api_Entry y2_1_14), (.v (.bool y2_2_15)), (S y2_3_16), (L 1 eS y2_4_17)]))]⟩) (.rf rfl rfl) ?_
          refine Ok.goto ?_
          exact ⟨0, by decide, (.inr (.inr ⟨rfl, rfl, y2_0_13, y2_1_14, y2_2_15, y2_3_16, y2_4_17, rfl, H⟩))⟩
        · replace H := ifF H hb32
          refine Ok.skip ?_
          refine Ok.seq ?_
          refine Ok.seq ?_
          obtain ⟨c28, H⟩ := assertE H
          obtain ⟨t29, h30, H⟩ := bindE H
          refine Ok.region (σ' := ⟨[(2, (.bref 2 0)), (4, (.v (.bool t29.2))), (6, (.v (.int .i64 x6_12)))], [(2, (.box .ex [(S y2_0_13), (L 4 e_api_Entry y2_1_14), (.v (.bool y2_2_15)), (S y2_3_16), (L 1 eS t29.1)]))]⟩) ?_ ?_
          · refine .cv (VOk.mv (d := (L 6 e_api_Node x5_11)) rfl rfl) rfl rfl ?_
            refine .cv (VOk.mv (d := (.v (.int .i64 1))) rfl rfl) rfl rfl ?_
            refine .cv (VOk.indexL (sz := 6) (e := e_api_Node) (xs := x5_11) (i := 1) rfl Try.underlying25 sz27 rfl rfl c28) rfl rfl ?_
            refine .cv (VOk.to (d' := (.agg (e_api_Node (rd x5_11 1)))) (.loadFpAgg rfl Try.underlying27 rfl sz27 rfl rfl) rfl) rfl rfl ?_
            refine .cg (GOk.call rfl rfl cl52 rfl (services_packages.ok h30) rfl) rfl rfl ?_
            refine .cv (VOk.mv (d := (.tup [(L 1 eS t29.1), (.v (.bool t29.2))])) rfl rfl) rfl rfl ?_
            refine .cv (VOk.extract (d := (L 1 eS t29.1)) rfl rfl rfl) rfl rfl ?_
            refine .cv (VOk.extract (d := (.v (.bool t29.2))) rfl rfl rfl) rfl rfl ?_
            refine .cv (VOk.to (VOk.fieldB rfl Try.underlying39 rfl sz37 rfl rfl) rfl) rfl rfl ?_
            refine OpsOk.cons rfl (OpOk.to (σ2 := St.put ⟨_, (2, (.box .ex [(S y2_0_13), (L 4 e_api_Entry y2_1_14), (.v (.bool y2_2_15)), (S y2_3_16), (L 1 eS t29.1)])) :: _⟩ _ .junk) (.storeB rfl sz37 rfl rfl rfl rfl rfl rfl) rfl) ?_
            refine .cv (VOk.asg (d := (.v (.bool t29.2))) rfl rfl) rfl rfl ?_
            exact .done (.rf rfl rfl)
          refine Ok.seq ?_
          refine Ok.region (σ' := ⟨[(2, (.bref 2 0)), (6, (.v (.int .i64 x6_12))), (101, (.v (.bool (!t29.2))))], [(2, (.box .ex [(S y2_0_13), (L 4 e_api_Entry y2_1_14), (.v (.bool y2_2_15)), (S y2_3_16), (L 1 eS t29.1)]))]⟩) ?_ ?_
          · refine .cv (VOk.mv (d := (.v (.bool t29.2))) rfl rfl) rfl rfl ?_
            refine .cv (VOk.not (b := t29.2) rfl rfl) rfl rfl ?_
            exact .done (.rf rfl rfl)
          refine Ok.test (b := (!t29.2)) rfl (fun hb31 => ?_) (fun hb31 => ?_)
          · replace H := ifT H hb31
            refine Ok.le (σ' := ⟨[(2, (.bref 2 0))], [(2, (.box .ex [(S y2_0_13), (L 4 e_api_Entry y2_1_14), (.v (.bool y2_2_15)), (S y2_3_16), (L 1 eS t29.1)]))]⟩) (.rf rfl rfl) ?_
            refine Ok.goto ?_
            exact ⟨0, by decide, (.inr (.inr ⟨rfl, rfl, y2_0_13, y2_1_14, y2_2_15, y2_3_16, t29.1, rfl, H⟩))⟩
          · replace H := ifF H hb31
            refine Ok.skip ?_
            refine Ok.seq ?_
            refine Ok.seq ?_
            refine Ok.region (σ' := ⟨[(2, (.bref 2 0)), (3, (.v (.bool (x6_12 == 0)))), (4, (.v (.bool true)))], [(2, (.box .ex (c_api_Service (T_api_Service.mk y2_0_13 y2_1_14 y2_2_15 y2_3_16 t29.1))))]⟩) ?_ ?_
            · refine .cv (VOk.to (d' := (.agg (e_api_Service (T_api_Service.mk y2_0_13 y2_1_14 y2_2_15 y2_3_16 t29.1)))) (.loadBAgg rfl Try.underlying39 rfl sz39 rfl rfl rfl) rfl) rfl rfl ?_
              refine .cv (VOk.mv (d := (.v (.int .i64 x6_12))) rfl rfl) rfl rfl ?_
              refine .cv (VOk.arith (op := .eql) (k := .i64) (a := x6_12) (b := 0) rfl rfl rfl rfl) rfl rfl ?_
              refine OpsOk.cons rfl (OpOk.to (σ2 := St.put ⟨_, (2, (.box .ex (c_api_Service (T_api_Service.mk y2_0_13 y2_1_14 y2_2_15 y2_3_16 t29.1)))) :: _⟩ _ .junk) (.storeB rfl sz39 rfl rfl rfl rfl rfl rfl) rfl) ?_
              refine .cv (VOk.asg (d := (.v (.bool (x6_12 == 0)))) rfl rfl) rfl rfl ?_
              refine .cv (VOk.asg (d := (.v (.bool true))) rfl rfl) rfl rfl ?_
              exact .done (.rf rfl rfl)
            refine Ok.ret ?_
            obtain rfl := Option.some.inj H
            exact ⟨.inl rfl, ⟨_, (.cons (.cell (VOk.to (d' := (.agg (e_api_Service (T_api_Service.mk y2_0_13 y2_1_14 y2_2_15 y2_3_16 t29.1)))) (.loadBAgg rfl Try.underlying39 rfl sz39 rfl rfl rfl) rfl)) (.cons (.tmp rfl) (.cons (.tmp rfl) .nil))), rfl⟩, trivial⟩
    · refine ⟨_, rfl, ?_⟩
      unfold services_service.g0 at H
      refine Ok.seq ?_
      refine Ok.skip ?_
      refine Ok.seq ?_
      refine Ok.region (σ' := ⟨[(2, (.bref 2 0)), (3, (.v (.bool false))), (4, (.v (.bool false)))], [(2, (.box .ex (c_api_Service (T_api_Service.mk ([] : Str) ([] : List T_api_Entry) false ([] : Str) ([] : List Str)))))]⟩) ?_ ?_
      · refine .cv (VOk.to (d' := (.agg (e_api_Service (T_api_Service.mk ([] : Str) ([] : List T_api_Entry) false ([] : Str) ([] : List Str))))) (.build [none, some 4, none, none, some 1] [(0, 1), (1, 1), (2, 1), (3, 1), (4, 1)] rfl Try.underlying39 (fa39 Try.underlying39) zo39 rfl rfl) rfl) rfl rfl ?_
        refine OpsOk.cons rfl (OpOk.to (σ2 := St.put ⟨_, (2, (.box .ex (c_api_Service (T_api_Service.mk ([] : Str) ([] : List T_api_Entry) false ([] : Str) ([] : List Str))))) :: _⟩ _ .junk) (.storeB rfl sz39 rfl rfl rfl rfl rfl rfl) rfl) ?_
        refine .cv (VOk.asg (d := (.v (.bool false))) rfl rfl) rfl rfl ?_
        refine .cv (VOk.asg (d := (.v (.bool false))) rfl rfl) rfl rfl ?_
        exact .done (.rf rfl rfl)
      refine Ok.ret ?_
      obtain rfl := Option.some.inj H
      exact ⟨.inl rfl, ⟨_, (.cons (.cell (VOk.to (d' := (.agg (e_api_Service (T_api_Service.mk ([] : Str) ([] : List T_api_Entry) false ([] : Str) ([] : List Str))))) (.loadBAgg rfl Try.underlying39 rfl sz39 rfl rfl rfl) rfl)) (.cons (.tmp rfl) (.cons (.tmp rfl) .nil))), rfl⟩, trivial⟩

end Go.Proofs.Ytannhioamkkdnaa.Sh
