import Derived.Test.YtannhioamkkdnaaProg
import Derived.Test.YtannhioamkkdnaaShb
namespace Go.Proofs.Ytannhioamkkdnaa.Sh
open Go Go.RowKit Go.Proofs.Vx
set_option linter.unusedVariables false

set_option maxRecDepth 100000
set_option maxHeartbeats 1000000
/-! watchbill/services.Decode: function 10 -/
def services_Decode.l0 (k : Nat) (a0 : T_api_Node) : Nat → List T_api_Service → Int → Bool → Option ((List T_api_Service) × Int)
  | 0, _, _, _ => none
  | m11 + 1, y4_7, x23_6, x5_5 => (if (decide (x23_6 < (a0.Kids.length : Int))) = true then (if (0 : Int) ≤ x23_6 ∧ x23_6 < (a0.Kids.length : Int) then (((if ((((rd a0.Kids x23_6).Kind) == 2) == true) = true then utf_Trim k ((rd a0.Kids x23_6).Text) else some default)).bind fun (t14 : Str) => (if ((((rd a0.Kids x23_6).Kind) == 2) && (!(t14 == ([] : Str)))) = true then some (([] : List T_api_Service), 40) else (((if ((((rd a0.Kids x23_6).Kind) != 1) == false) = true then services_own ([] : Str) else some default)).bind fun (t18 : T_api_Name) => (if ((((rd a0.Kids x23_6).Kind) != 1) || (!(((rd a0.Kids x23_6).Name.Space) == t18.Space))) = true then services_Decode.l0 k a0 m11 y4_7 (IntKind.i64.wrap (x23_6 + 1)) x5_5 else ((services_service k (rd a0.Kids x23_6)).bind fun (t21 : T_api_Service × Bool × Bool) => (if (!t21.2.2) = true then some (([] : List T_api_Service), 40) else (if (y4_7.length + ([t21.1] : List T_api_Service).length) * 88 ≤ 140737488355328 then services_Decode.l0 k a0 m11 (y4_7 ++ ([t21.1] : List T_api_Service)) (IntKind.i64.wrap (x23_6 + 1)) (x5_5 && t21.2.1) else none))))))) else none) else (((if ((!x5_5) == false) = true then services_distinct k y4_7 else some default)).bind fun (t30 : Bool) => (if ((!x5_5) || (!t30)) = true then some (([] : List T_api_Service), 41) else some (y4_7, 0))))
def services_Decode (k : Nat) (a0 : T_api_Node) : Option ((List T_api_Service) × Int) := (((if ((a0.Kind != 1) == false) = true then services_own ([114, 108, 115, 45, 115, 101, 114, 118, 105, 99, 101, 115] : Str) else some default)).bind fun (t2 : T_api_Name) => (if ((a0.Kind != 1) || (!(a0.Name.Space == t2.Space && (a0.Name.Local == t2.Local && true)))) = true then some (([] : List T_api_Service), 40) else services_Decode.l0 k a0 k ([] : List T_api_Service) 0 true))
theorem services_Decode.ok {k : Nat} {a0 : T_api_Node} {r : (List T_api_Service) × Int} (H : services_Decode k a0 = some r) : Vx.Fn Try.prog 10 [(.agg (e_api_Node a0))] [] (.tup [(L 5 e_api_Service r.1), (.v (.int .i64 r.2))]) [] := by
  unfold services_Decode at H
  refine Vx.Fn.of_okR Try.func10 rfl (Nat.le_of_ble_eq_true rfl) ?_
  refine Ok.seq ?_
  refine Ok.region (σ' := ⟨[(1, (.bref 1 0))], [(1, (.box .ex (c_api_Node a0)))]⟩) ?_ ?_
  · refine OpsOk.cut1 0 (.agg [(.v (.int .i64 a0.Kind)), (S a0.Name.Space), (S a0.Name.Local), (L 3 e_api_Attr a0.Attrs), (L 6 e_api_Node a0.Kids), (S a0.Text)]) (DLe.of_eq (congrArg D.agg (e_api_Node_c _).symm)) ?_
    refine OpsOk.cons rfl (OpOk.box 1 (cells := [(.v (.int .i64 a0.Kind)), (S a0.Name.Space), (S a0.Name.Local), (L 3 e_api_Attr a0.Attrs), (L 6 e_api_Node a0.Kids), (S a0.Text)]) rfl rfl rfl rfl) ?_
    refine .cv (VOk.asg (d := (.v (.slice none 0 0))) rfl rfl) rfl rfl ?_
    refine .cv (VOk.asg (d := (.v (.int .i64 0))) rfl rfl) rfl rfl ?_
    exact .done (.rf rfl rfl)
  refine Ok.seq ?_
  refine Ok.seq ?_
  obtain ⟨t2, h3, H⟩ := bindE H
  refine Ok.drawE (σ' := ⟨[(1, (.bref 1 0)), (19, (.v (.bool ((a0.Kind != 1) || (!(a0.Name.Space == t2.Space && (a0.Name.Local == t2.Local && true)))))))], [(1, (.box .ex (c_api_Node a0)))]⟩) [⟨true, [(1, (.bref 1 0))], (.bref 1 0)⟩, ⟨true, [(11, (.bref 1 0))], (.v (.int .i64 a0.Kind))⟩, ⟨true, [(12, (.v (.int .i64 a0.Kind)))], (.v (.bool (a0.Kind != 1)))⟩, ⟨true, [(13, (.v (.bool (a0.Kind != 1))))], (.v (.bool (a0.Kind != 1)))⟩, It.I ((a0.Kind != 1) == false) [(1, (.bref 1 0)), (14, (.v (.bool (a0.Kind != 1))))] (.bref 1 1), It.I ((a0.Kind != 1) == false) [(15, (bif ((a0.Kind != 1) == false) then (.bref 1 1) else .v undef)), (14, (.v (.bool (a0.Kind != 1))))] (.agg (e_api_Name a0.Name)), It.I ((a0.Kind != 1) == false) [(14, (.v (.bool (a0.Kind != 1))))] (.agg (e_api_Name t2)), It.I ((a0.Kind != 1) == false) [(16, (bif ((a0.Kind != 1) == false) then (.agg (e_api_Name a0.Name)) else .v undef)), (17, (bif ((a0.Kind != 1) == false) then (.agg (e_api_Name t2)) else .v undef)), (14, (.v (.bool (a0.Kind != 1))))] (.v (.bool (!(a0.Name.Space == t2.Space && (a0.Name.Local == t2.Local && true))))), ⟨true, [(14, (.v (.bool (a0.Kind != 1)))), (18, (bif ((a0.Kind != 1) == false) then (.v (.bool (!(a0.Name.Space == t2.Space && (a0.Name.Local == t2.Local && true))))) else .v undef))], (.v (.bool ((a0.Kind != 1) || (!(a0.Name.Space == t2.Space && (a0.Name.Local == t2.Local && true))))))⟩] [[], [0], [1], [2], [3], [3, 4], [3], [3, 5, 6], [3, 7]] mixed (by kernel_rfl) ?_ ?_
  · refine TxtE.cons rfl ⟨.same _, trivial⟩ rfl (VOk.g (VOk.to (VOk.fieldB rfl Try.underlying27 rfl sz3 rfl rfl) rfl)) ?_
    refine TxtE.cons rfl ⟨.same _, trivial⟩ rfl (VOk.g (VOk.loadB (d := (.v (.int .i64 a0.Kind))) rfl Try.underlying3 rfl rfl rfl rfl)) ?_
    refine TxtE.cons rfl ⟨.same _, trivial⟩ rfl (VOk.g (VOk.arith (op := .neq) (k := .i64) (a := a0.Kind) (b := 1) rfl rfl rfl rfl)) ?_
    refine TxtE.cons rfl ⟨.same _, trivial⟩ rfl (VOk.g (VOk.mv (d := (.v (.bool (a0.Kind != 1)))) rfl rfl)) ?_
    refine TxtE.consI rfl ⟨.same _, .same _, trivial⟩ rfl rfl (.one rfl) (fun hw1 => (VOk.g (VOk.to (VOk.fieldB rfl Try.underlying27 rfl sz23 rfl rfl) rfl))) ?_
    refine TxtE.consI rfl ⟨.same _, .same _, trivial⟩ rfl rfl (.one rfl) (fun hw1 => (GOk.fr (fr' := [(15, (.bref 1 1))]) ⟨DLe.of_eq (cT hw1).symm, trivial⟩ (VOk.g (VOk.to (d' := (.agg (e_api_Name a0.Name))) (.loadBAgg rfl Try.underlying23 rfl sz23 rfl rfl rfl) rfl)))) ?_
    refine TxtE.consI rfl ⟨.same _, trivial⟩ rfl rfl (.one rfl) (fun hw1 => (GOk.call rfl rfl cl24 rfl (services_own.ok (ifT h3 hw1)) rfl)) ?_
    refine TxtE.consI rfl ⟨.same _, .same _, .same _, trivial⟩ rfl rfl (.one rfl) (fun hw1 => (GOk.fr (fr' := [(16, (.agg (e_api_Name a0.Name))), (17, (.agg (e_api_Name t2)))]) ⟨DLe.of_eq (cT hw1).symm, DLe.of_eq (cT hw1).symm, trivial⟩ (VOk.g (VOk.eqS' (op := .neq) (d := (.v (.bool (!(a0.Name.Space == t2.Space && (a0.Name.Local == t2.Local && true)))))) rfl (.inr rfl) (eqt23 9998) ag23 eg23 rfl rfl rfl rfl)))) ?_
    refine TxtE.cons rfl ⟨.same _, .same _, trivial⟩ rfl (VOk.g (VOk.to (VOk.pickI (b := (a0.Kind != 1)) (p := true) (q := (!(a0.Name.Space == t2.Space && (a0.Name.Local == t2.Local && true)))) rfl rfl (fun hp4 => rfl) (fun hp4 => (cT (f_beq hp4)))) (pickOr (a0.Kind != 1) (!(a0.Name.Space == t2.Space && (a0.Name.Local == t2.Local && true)))))) ?_
    exact .done (.rf rfl rfl)
  refine Ok.test (b := ((a0.Kind != 1) || (!(a0.Name.Space == t2.Space && (a0.Name.Local == t2.Local && true))))) rfl (fun hb35 => ?_) (fun hb35 => ?_)
  · replace H := ifT H hb35
    refine Ok.seq ?_
    refine Ok.region (σ' := ⟨[(2, (.v (.slice none 0 0))), (3, (.v (.int .i64 40)))], []⟩) ?_ ?_
    · refine .cv (VOk.asg (d := (.v (.slice none 0 0))) rfl rfl) rfl rfl ?_
      refine .cv (VOk.asg (d := (.v (.int .i64 40))) rfl rfl) rfl rfl ?_
      exact .done (.rf rfl rfl)
    refine Ok.le (σ' := ⟨[(2, (L 5 e_api_Service ([] : List T_api_Service))), (3, (.v (.int .i64 40)))], []⟩) (.mk ⟨.nil _, .same _, trivial⟩ trivial) ?_
    refine Ok.ret ?_
    obtain rfl := Option.some.inj H
    exact ⟨.inl rfl, ⟨_, (.cons (.tmp rfl) (.cons (.tmp rfl) .nil)), rfl⟩, trivial⟩
  · replace H := ifF H hb35
    refine Ok.skip ?_
    refine Ok.seq ?_
    refine Ok.region (σ' := ⟨[(1, (.bref 1 0)), (4, (.sref 4))], [(1, (.box .ex (c_api_Node a0))), (4, (.rows true 39 5 (([] : List T_api_Service).map e_api_Service)))]⟩) ?_ ?_
    · refine OpsOk.cons rfl (.nilT 4 39 5 (.inl rfl) rfl rfl) ?_
      exact .done (.rf rfl rfl)
    refine Ok.seq ?_
    refine Ok.region (σ' := ⟨[(1, (.bref 1 0)), (4, (.sref 4)), (5, (.v (.bool true)))], [(1, (.box .ex (c_api_Node a0))), (4, (.rows true 39 5 (([] : List T_api_Service).map e_api_Service)))]⟩) ?_ ?_
    · refine .cv (VOk.asg (d := (.v (.bool true))) rfl rfl) rfl rfl ?_
      exact .done (.rf rfl rfl)
    refine Ok.seq ?_
    refine Ok.seq ?_
    refine Ok.region (σ' := ⟨[(4, (.sref 4)), (5, (.v (.bool true))), (21, (L 6 e_api_Node a0.Kids)), (22, (.v (.int .i64 (a0.Kids.length : Int)))), (23, (.v (.int .i64 0)))], [(4, (.rows true 39 5 (([] : List T_api_Service).map e_api_Service)))]⟩) ?_ ?_
    · refine .cv (VOk.to (VOk.fieldB rfl Try.underlying27 rfl sz25 rfl rfl) rfl) rfl rfl ?_
      refine .cv (VOk.loadB (d := (L 6 e_api_Node a0.Kids)) rfl Try.underlying25 rfl rfl rfl rfl) rfl rfl ?_
      refine .cv (VOk.lenL (e := e_api_Node) (xs := a0.Kids) rfl Try.underlying25 rfl) rfl rfl ?_
      refine .cv (VOk.mv (d := (.v (.int .i64 0))) rfl rfl) rfl rfl ?_
      exact .done (.rf rfl rfl)
    refine Ok.block ?_
    refine Ok.le (σ' := ⟨[(4, (.sref 4)), (5, (.v (.bool true))), (21, (L 6 e_api_Node a0.Kids)), (22, (.v (.int .i64 (a0.Kids.length : Int)))), (23, (.v (.int .i64 0)))], [(4, (.rows true 39 5 (([] : List T_api_Service).map e_api_Service)))]⟩) (.rf rfl rfl) ?_
    refine Ok.loop (fun m11 σ => ∃ (y4_7 : List T_api_Service) (x23_6 : Int) (x5_5 : Bool), σ = ⟨[(4, (.sref 4)), (5, (.v (.bool x5_5))), (21, (L 6 e_api_Node a0.Kids)), (22, (.v (.int .i64 (a0.Kids.length : Int)))), (23, (.v (.int .i64 x23_6)))], [(4, (.rows true 39 5 (y4_7.map e_api_Service)))]⟩ ∧ services_Decode.l0 k a0 m11 y4_7 x23_6 x5_5 = some r) k ⟨([] : List T_api_Service), 0, true, rfl, H⟩ ?_
    rintro m11 σ ⟨y4_7, x23_6, x5_5, rfl, H⟩
    cases m11 with
    | zero => exact absurd H (by simp [services_Decode.l0])
    | succ m11 =>
      unfold services_Decode.l0 at H
      refine Ok.seq ?_
      refine Ok.region (σ' := ⟨[(4, (.sref 4)), (5, (.v (.bool x5_5))), (21, (L 6 e_api_Node a0.Kids)), (22, (.v (.int .i64 (a0.Kids.length : Int)))), (23, (.v (.int .i64 x23_6))), (24, (.v (.bool (decide (x23_6 < (a0.Kids.length : Int))))))], [(4, (.rows true 39 5 (y4_7.map e_api_Service)))]⟩) ?_ ?_
      · refine .cv (VOk.arith (op := .lss) (k := .i64) (a := x23_6) (b := (a0.Kids.length : Int)) rfl rfl rfl rfl) rfl rfl ?_
        exact .done (.rf rfl rfl)
      refine Ok.seq ?_
      refine Ok.test (b := (decide (x23_6 < (a0.Kids.length : Int)))) rfl (fun hb34 => ?_) (fun hb34 => ?_)
      · replace H := ifT H hb34
        refine Ok.skip ?_
        refine Ok.seq ?_
        refine Ok.block ?_
        refine Ok.seq ?_
        obtain ⟨c12, H⟩ := assertE H
        refine Ok.region (σ' := ⟨[(4, (.sref 4)), (5, (.v (.bool x5_5))), (7, (.bref 7 0)), (21, (L 6 e_api_Node a0.Kids)), (22, (.v (.int .i64 (a0.Kids.length : Int)))), (23, (.v (.int .i64 x23_6)))], [(4, (.rows true 39 5 (y4_7.map e_api_Service))), (7, (.box .ex (c_api_Node (rd a0.Kids x23_6))))]⟩) ?_ ?_
        · refine .cv (VOk.indexL (sz := 6) (e := e_api_Node) (xs := a0.Kids) (i := x23_6) rfl Try.underlying25 sz27 rfl rfl c12) rfl rfl ?_
          refine .cv (VOk.to (d' := (.agg (e_api_Node (rd a0.Kids x23_6)))) (.loadFpAgg rfl Try.underlying27 rfl sz27 rfl rfl) rfl) rfl rfl ?_
          refine OpsOk.cons rfl (OpOk.alloc 7 [none, none, none, some 3, some 6, none] rfl zo27 rfl rfl) ?_
          refine OpsOk.cut1 26 (.agg [(.v (.int .i64 ((rd a0.Kids x23_6).Kind))), (S ((rd a0.Kids x23_6).Name.Space)), (S ((rd a0.Kids x23_6).Name.Local)), (L 3 e_api_Attr ((rd a0.Kids x23_6).Attrs)), (L 6 e_api_Node ((rd a0.Kids x23_6).Kids)), (S ((rd a0.Kids x23_6).Text))]) (DLe.of_eq (congrArg D.agg (e_api_Node_c _).symm)) ?_
          refine OpsOk.cons rfl (OpOk.to (σ2 := St.put ⟨_, (7, (.box .ex (c_api_Node (rd a0.Kids x23_6)))) :: _⟩ _ .junk) (.storeB rfl sz27 rfl rfl rfl rfl rfl rfl) rfl) ?_
          exact .done (.rf rfl rfl)
        refine Ok.seq ?_
        refine Ok.block ?_
        refine Ok.seq ?_
        obtain ⟨t14, h15, H⟩ := bindE H
        refine Ok.region (σ' := ⟨[(4, (.sref 4)), (5, (.v (.bool x5_5))), (7, (.bref 7 0)), (21, (L 6 e_api_Node a0.Kids)), (22, (.v (.int .i64 (a0.Kids.length : Int)))), (23, (.v (.int .i64 x23_6))), (27, (.v (.bool ((((rd a0.Kids x23_6).Kind) == 2) && (!(t14 == ([] : Str)))))))], [(4, (.rows true 39 5 (y4_7.map e_api_Service))), (7, (.box .ex (c_api_Node (rd a0.Kids x23_6))))]⟩) ?_ ?_
        · refine .cv (VOk.to (VOk.fieldB rfl Try.underlying27 rfl sz3 rfl rfl) rfl) rfl rfl ?_
          refine .cv (VOk.loadB (d := (.v (.int .i64 ((rd a0.Kids x23_6).Kind)))) rfl Try.underlying3 rfl rfl rfl rfl) rfl rfl ?_
          refine .cv (VOk.arith (op := .eql) (k := .i64) (a := (rd a0.Kids x23_6).Kind) (b := 2) rfl rfl rfl rfl) rfl rfl ?_
          refine .cv (VOk.mv (d := (.v (.bool (((rd a0.Kids x23_6).Kind) == 2)))) rfl rfl) rfl rfl ?_
          refine OpsOk.consI rfl rfl rfl (.one rfl) rfl (fun hw13 => (VOk.g (VOk.to (VOk.fieldB rfl Try.underlying27 rfl sz9 rfl rfl) rfl))) ?_
          refine OpsOk.consI rfl rfl rfl (.one rfl) rfl (fun hw13 => (GOk.fr (fr' := [(32, (.bref 7 5))]) ⟨DLe.of_eq (cT hw13).symm, trivial⟩ (VOk.g (VOk.loadB (d := (S ((rd a0.Kids x23_6).Text))) rfl Try.underlying9 rfl rfl rfl rfl)))) ?_
          refine OpsOk.consI rfl rfl rfl (.one rfl) rfl (fun hw13 => (GOk.fr (fr' := [(33, (S ((rd a0.Kids x23_6).Text)))]) ⟨DLe.of_eq (cT hw13).symm, trivial⟩ (GOk.call rfl rfl cl25 rfl (utf_Trim.ok (ifT h15 hw13)) rfl))) ?_
          refine OpsOk.consI rfl rfl rfl (.one rfl) rfl (fun hw13 => (GOk.fr (fr' := [(34, (S t14))]) ⟨DLe.of_eq (cT hw13).symm, trivial⟩ (VOk.g (VOk.strOp (op := .neq) (a := t14) (b := ([] : Str)) rfl rfl rfl rfl)))) ?_
          refine .cv (VOk.to (VOk.pickI (b := (((rd a0.Kids x23_6).Kind) == 2)) (p := (!(t14 == ([] : Str)))) (q := false) rfl rfl (fun hp16 => (cT (t_beq hp16))) (fun hp16 => rfl)) (pickAnd (((rd a0.Kids x23_6).Kind) == 2) (!(t14 == ([] : Str))))) rfl rfl ?_
          refine .cv (VOk.asg (d := (.v (.bool ((((rd a0.Kids x23_6).Kind) == 2) && (!(t14 == ([] : Str))))))) rfl rfl) rfl rfl ?_
          exact .done (.rf rfl rfl)
        refine Ok.test (b := ((((rd a0.Kids x23_6).Kind) == 2) && (!(t14 == ([] : Str))))) rfl (fun hb28 => ?_) (fun hb28 => ?_)
        · replace H := ifT H hb28
          refine Ok.seq ?_
          refine Ok.region (σ' := ⟨[(2, (.v (.slice none 0 0))), (3, (.v (.int .i64 40)))], []⟩) ?_ ?_
          · refine .cv (VOk.asg (d := (.v (.slice none 0 0))) rfl rfl) rfl rfl ?_
            refine .cv (VOk.asg (d := (.v (.int .i64 40))) rfl rfl) rfl rfl ?_
            exact .done (.rf rfl rfl)
          refine Ok.le (σ' := ⟨[(2, (L 5 e_api_Service ([] : List T_api_Service))), (3, (.v (.int .i64 40)))], []⟩) (.mk ⟨.nil _, .same _, trivial⟩ trivial) ?_
          refine Ok.ret ?_
          obtain rfl := Option.some.inj H
          exact ⟨.inl rfl, ⟨_, (.cons (.tmp rfl) (.cons (.tmp rfl) .nil)), rfl⟩, trivial⟩
        · replace H := ifF H hb28
          refine Ok.seq ?_
          obtain ⟨t18, h19, H⟩ := bindE H
          refine Ok.drawE (σ' := ⟨[(4, (.sref 4)), (5, (.v (.bool x5_5))), (7, (.bref 7 0)), (21, (L 6 e_api_Node a0.Kids)), (22, (.v (.int .i64 (a0.Kids.length : Int)))), (23, (.v (.int .i64 x23_6))), (37, (.v (.bool ((((rd a0.Kids x23_6).Kind) != 1) || (!(((rd a0.Kids x23_6).Name.Space) == t18.Space))))))], [(4, (.rows true 39 5 (y4_7.map e_api_Service))), (7, (.box .ex (c_api_Node (rd a0.Kids x23_6))))]⟩) [⟨true, [(7, (.bref 7 0))], (.bref 7 0)⟩, ⟨true, [(38, (.bref 7 0))], (.v (.int .i64 ((rd a0.Kids x23_6).Kind)))⟩, ⟨true, [(39, (.v (.int .i64 ((rd a0.Kids x23_6).Kind))))], (.v (.bool (((rd a0.Kids x23_6).Kind) != 1)))⟩, ⟨true, [(40, (.v (.bool (((rd a0.Kids x23_6).Kind) != 1))))], (.v (.bool (((rd a0.Kids x23_6).Kind) != 1)))⟩, It.I ((((rd a0.Kids x23_6).Kind) != 1) == false) [(7, (.bref 7 0)), (41, (.v (.bool (((rd a0.Kids x23_6).Kind) != 1))))] (.bref 7 1), It.I ((((rd a0.Kids x23_6).Kind) != 1) == false) [(42, (bif ((((rd a0.Kids x23_6).Kind) != 1) == false) then (.bref 7 1) else .v undef)), (41, (.v (.bool (((rd a0.Kids x23_6).Kind) != 1))))] (.bref 7 1), It.I ((((rd a0.Kids x23_6).Kind) != 1) == false) [(43, (bif ((((rd a0.Kids x23_6).Kind) != 1) == false) then (.bref 7 1) else .v undef)), (41, (.v (.bool (((rd a0.Kids x23_6).Kind) != 1))))] (S ((rd a0.Kids x23_6).Name.Space)), It.I ((((rd a0.Kids x23_6).Kind) != 1) == false) [(41, (.v (.bool (((rd a0.Kids x23_6).Kind) != 1))))] (.agg (e_api_Name t18)), It.I ((((rd a0.Kids x23_6).Kind) != 1) == false) [(45, (bif ((((rd a0.Kids x23_6).Kind) != 1) == false) then (.agg (e_api_Name t18)) else .v undef)), (41, (.v (.bool (((rd a0.Kids x23_6).Kind) != 1))))] (S t18.Space), It.I ((((rd a0.Kids x23_6).Kind) != 1) == false) [(44, (bif ((((rd a0.Kids x23_6).Kind) != 1) == false) then (S ((rd a0.Kids x23_6).Name.Space)) else .v undef)), (46, (bif ((((rd a0.Kids x23_6).Kind) != 1) == false) then (S t18.Space) else .v undef)), (41, (.v (.bool (((rd a0.Kids x23_6).Kind) != 1))))] (.v (.bool (!(((rd a0.Kids x23_6).Name.Space) == t18.Space)))), ⟨true, [(41, (.v (.bool (((rd a0.Kids x23_6).Kind) != 1)))), (47, (bif ((((rd a0.Kids x23_6).Kind) != 1) == false) then (.v (.bool (!(((rd a0.Kids x23_6).Name.Space) == t18.Space)))) else .v undef))], (.v (.bool ((((rd a0.Kids x23_6).Kind) != 1) || (!(((rd a0.Kids x23_6).Name.Space) == t18.Space)))))⟩, ⟨true, [(48, (.v (.bool ((((rd a0.Kids x23_6).Kind) != 1) || (!(((rd a0.Kids x23_6).Name.Space) == t18.Space))))))], (.v (.bool ((((rd a0.Kids x23_6).Kind) != 1) || (!(((rd a0.Kids x23_6).Name.Space) == t18.Space)))))⟩] [[], [0], [1], [2], [3], [3, 4], [3, 5], [3], [3, 7], [3, 6, 8], [3, 9], [10]] mixed (by kernel_rfl) ?_ ?_
          · refine TxtE.cons rfl ⟨.same _, trivial⟩ rfl (VOk.g (VOk.to (VOk.fieldB rfl Try.underlying27 rfl sz3 rfl rfl) rfl)) ?_
            refine TxtE.cons rfl ⟨.same _, trivial⟩ rfl (VOk.g (VOk.loadB (d := (.v (.int .i64 ((rd a0.Kids x23_6).Kind)))) rfl Try.underlying3 rfl rfl rfl rfl)) ?_
            refine TxtE.cons rfl ⟨.same _, trivial⟩ rfl (VOk.g (VOk.arith (op := .neq) (k := .i64) (a := (rd a0.Kids x23_6).Kind) (b := 1) rfl rfl rfl rfl)) ?_
            refine TxtE.cons rfl ⟨.same _, trivial⟩ rfl (VOk.g (VOk.mv (d := (.v (.bool (((rd a0.Kids x23_6).Kind) != 1)))) rfl rfl)) ?_
            refine TxtE.consI rfl ⟨.same _, .same _, trivial⟩ rfl rfl (.one rfl) (fun hw17 => (VOk.g (VOk.to (VOk.fieldB rfl Try.underlying27 rfl sz23 rfl rfl) rfl))) ?_
            refine TxtE.consI rfl ⟨.same _, .same _, trivial⟩ rfl rfl (.one rfl) (fun hw17 => (GOk.fr (fr' := [(42, (.bref 7 1))]) ⟨DLe.of_eq (cT hw17).symm, trivial⟩ (VOk.g (VOk.to (VOk.fieldB rfl Try.underlying23 rfl sz9 rfl rfl) rfl)))) ?_
            refine TxtE.consI rfl ⟨.same _, .same _, trivial⟩ rfl rfl (.one rfl) (fun hw17 => (GOk.fr (fr' := [(43, (.bref 7 1))]) ⟨DLe.of_eq (cT hw17).symm, trivial⟩ (VOk.g (VOk.loadB (d := (S ((rd a0.Kids x23_6).Name.Space))) rfl Try.underlying9 rfl rfl rfl rfl)))) ?_
            refine TxtE.consI rfl ⟨.same _, trivial⟩ rfl rfl (.one rfl) (fun hw17 => (GOk.call rfl rfl cl24 rfl (services_own.ok (ifT h19 hw17)) rfl)) ?_
            refine TxtE.consI rfl ⟨.same _, .same _, trivial⟩ rfl rfl (.one rfl) (fun hw17 => (GOk.fr (fr' := [(45, (.agg (e_api_Name t18)))]) ⟨DLe.of_eq (cT hw17).symm, trivial⟩ (VOk.g (VOk.field (d := (S t18.Space)) rfl Try.underlying23 rfl Try.underlying9 rfl rfl rfl)))) ?_
            refine TxtE.consI rfl ⟨.same _, .same _, .same _, trivial⟩ rfl rfl (.one rfl) (fun hw17 => (GOk.fr (fr' := [(44, (S ((rd a0.Kids x23_6).Name.Space))), (46, (S t18.Space))]) ⟨DLe.of_eq (cT hw17).symm, DLe.of_eq (cT hw17).symm, trivial⟩ (VOk.g (VOk.strOp (op := .neq) (a := (rd a0.Kids x23_6).Name.Space) (b := t18.Space) rfl rfl rfl rfl)))) ?_
            refine TxtE.cons rfl ⟨.same _, .same _, trivial⟩ rfl (VOk.g (VOk.to (VOk.pickI (b := (((rd a0.Kids x23_6).Kind) != 1)) (p := true) (q := (!(((rd a0.Kids x23_6).Name.Space) == t18.Space))) rfl rfl (fun hp20 => rfl) (fun hp20 => (cT (f_beq hp20)))) (pickOr (((rd a0.Kids x23_6).Kind) != 1) (!(((rd a0.Kids x23_6).Name.Space) == t18.Space))))) ?_
            refine TxtE.cons rfl ⟨.same _, trivial⟩ rfl (VOk.g (VOk.asg (d := (.v (.bool ((((rd a0.Kids x23_6).Kind) != 1) || (!(((rd a0.Kids x23_6).Name.Space) == t18.Space)))))) rfl rfl)) ?_
            exact .done (.rf rfl rfl)
          refine Ok.test (b := ((((rd a0.Kids x23_6).Kind) != 1) || (!(((rd a0.Kids x23_6).Name.Space) == t18.Space)))) rfl (fun hb27 => ?_) (fun hb27 => ?_)
          · replace H := ifT H hb27
            refine Ok.exit ?_
            refine Ok.region (σ' := ⟨[(4, (.sref 4)), (5, (.v (.bool x5_5))), (21, (L 6 e_api_Node a0.Kids)), (22, (.v (.int .i64 (a0.Kids.length : Int)))), (23, (.v (.int .i64 (IntKind.i64.wrap (x23_6 + 1)))))], [(4, (.rows true 39 5 (y4_7.map e_api_Service)))]⟩) ?_ ?_
            · refine .cv (VOk.arith (op := .add) (k := .i64) (a := x23_6) (b := 1) rfl rfl rfl rfl) rfl rfl ?_
              refine .cv (VOk.mv (d := (.v (.int .i64 (IntKind.i64.wrap (x23_6 + 1))))) rfl rfl) rfl rfl ?_
              exact .done (.rf rfl rfl)
            exact ⟨m11, Nat.lt_succ_self m11, y4_7, (IntKind.i64.wrap (x23_6 + 1)), x5_5, rfl, H⟩
          · replace H := ifF H hb27
            refine Ok.skip ?_
            refine Ok.seq ?_
            obtain ⟨t21, h22, H⟩ := bindE H
            refine Ok.region (σ' := ⟨[(4, (.sref 4)), (5, (.v (.bool x5_5))), (8, (.bref 8 0)), (9, (.v (.bool t21.2.1))), (10, (.v (.bool t21.2.2))), (21, (L 6 e_api_Node a0.Kids)), (22, (.v (.int .i64 (a0.Kids.length : Int)))), (23, (.v (.int .i64 x23_6)))], [(4, (.rows true 39 5 (y4_7.map e_api_Service))), (8, (.box .ex (c_api_Service t21.1)))]⟩) ?_ ?_
            · refine .cv (VOk.to (d' := (.agg (e_api_Node (rd a0.Kids x23_6)))) (.loadBAgg rfl Try.underlying27 rfl sz27 rfl rfl rfl) (congrArg D.agg (e_api_Node_c (rd a0.Kids x23_6)).symm)) rfl rfl ?_
              refine .cg (GOk.call rfl rfl cl26 rfl (services_service.ok h22) rfl) rfl rfl ?_
              refine .cv (VOk.mv (d := (.tup [(.agg (e_api_Service t21.1)), (.v (.bool t21.2.1)), (.v (.bool t21.2.2))])) rfl rfl) rfl rfl ?_
              refine .cv (VOk.extract (d := (.agg (e_api_Service t21.1))) rfl rfl rfl) rfl rfl ?_
              refine .cv (VOk.extract (d := (.v (.bool t21.2.1))) rfl rfl rfl) rfl rfl ?_
              refine .cv (VOk.extract (d := (.v (.bool t21.2.2))) rfl rfl rfl) rfl rfl ?_
              refine OpsOk.cons rfl (OpOk.alloc 8 [none, some 4, none, none, some 1] rfl zo39 rfl rfl) ?_
              refine OpsOk.cons rfl (OpOk.to (σ2 := St.put ⟨_, (8, (.box .ex (c_api_Service t21.1))) :: _⟩ _ .junk) (.storeB rfl sz39 rfl rfl rfl rfl rfl rfl) rfl) ?_
              refine .cv (VOk.asg (d := (.v (.bool t21.2.1))) rfl rfl) rfl rfl ?_
              refine .cv (VOk.asg (d := (.v (.bool t21.2.2))) rfl rfl) rfl rfl ?_
              exact .done (.rf rfl rfl)
            refine Ok.seq ?_
            refine Ok.seq ?_
            refine Ok.region (σ' := ⟨[(4, (.sref 4)), (5, (.v (.bool x5_5))), (8, (.bref 8 0)), (9, (.v (.bool t21.2.1))), (21, (L 6 e_api_Node a0.Kids)), (22, (.v (.int .i64 (a0.Kids.length : Int)))), (23, (.v (.int .i64 x23_6))), (56, (.v (.bool (!t21.2.2))))], [(4, (.rows true 39 5 (y4_7.map e_api_Service))), (8, (.box .ex (c_api_Service t21.1)))]⟩) ?_ ?_
            · refine .cv (VOk.mv (d := (.v (.bool t21.2.2))) rfl rfl) rfl rfl ?_
              refine .cv (VOk.not (b := t21.2.2) rfl rfl) rfl rfl ?_
              exact .done (.rf rfl rfl)
            refine Ok.test (b := (!t21.2.2)) rfl (fun hb26 => ?_) (fun hb26 => ?_)
            · replace H := ifT H hb26
              refine Ok.seq ?_
              refine Ok.region (σ' := ⟨[(2, (.v (.slice none 0 0))), (3, (.v (.int .i64 40)))], []⟩) ?_ ?_
              · refine .cv (VOk.asg (d := (.v (.slice none 0 0))) rfl rfl) rfl rfl ?_
                refine .cv (VOk.asg (d := (.v (.int .i64 40))) rfl rfl) rfl rfl ?_
                exact .done (.rf rfl rfl)
              refine Ok.le (σ' := ⟨[(2, (L 5 e_api_Service ([] : List T_api_Service))), (3, (.v (.int .i64 40)))], []⟩) (.mk ⟨.nil _, .same _, trivial⟩ trivial) ?_
              refine Ok.ret ?_
              obtain rfl := Option.some.inj H
              exact ⟨.inl rfl, ⟨_, (.cons (.tmp rfl) (.cons (.tmp rfl) .nil)), rfl⟩, trivial⟩
            · replace H := ifF H hb26
              refine Ok.skip ?_
              obtain ⟨c23, H⟩ := assertE H
              refine Ok.region (σ' := ⟨[(4, (.sref 4)), (5, (.v (.bool (x5_5 && t21.2.1)))), (21, (L 6 e_api_Node a0.Kids)), (22, (.v (.int .i64 (a0.Kids.length : Int)))), (23, (.v (.int .i64 x23_6)))], [(4, (.rows true 39 5 ((y4_7 ++ ([t21.1] : List T_api_Service)).map e_api_Service)))]⟩) ?_ ?_
              · refine .cv (VOk.mv (d := (.sref 4)) rfl rfl) rfl rfl ?_
                refine .cv (VOk.to (d' := (.agg (e_api_Service t21.1))) (.loadBAgg rfl Try.underlying39 rfl sz39 rfl rfl rfl) rfl) rfl rfl ?_
                refine .cg (GOk.to (d' := (L 5 e_api_Service ([t21.1] : List T_api_Service))) (GOk.lit rfl Try.underlying30 sz39 zs39 rfl rfl rfl rfl) rfl) rfl rfl ?_
                refine OpsOk.cons rfl (OpOk.appendL (e := e_api_Service) (xs := y4_7) (ys := ([t21.1] : List T_api_Service)) rfl Try.underlying30 elt39 rfl rfl rfl c23 rfl) ?_
                refine .cv (VOk.mv (d := (.v (.bool x5_5))) rfl rfl) rfl rfl ?_
                refine .cv (VOk.mv (d := (.v (.bool x5_5))) rfl rfl) rfl rfl ?_
                refine OpsOk.consI rfl rfl rfl (.one rfl) rfl (fun hw24 => (VOk.g (VOk.mv (d := (.v (.bool t21.2.1))) rfl rfl))) ?_
                refine .cv (VOk.to (VOk.pickI (b := x5_5) (p := t21.2.1) (q := false) rfl rfl (fun hp25 => (cT (t_beq hp25))) (fun hp25 => rfl)) (pickAnd x5_5 t21.2.1)) rfl rfl ?_
                refine .cv (VOk.asg (d := (.sref 4)) rfl rfl) rfl rfl ?_
                refine .cv (VOk.asg (d := (.v (.bool (x5_5 && t21.2.1)))) rfl rfl) rfl rfl ?_
                exact .done (.rf rfl rfl)
              refine Ok.region (σ' := ⟨[(4, (.sref 4)), (5, (.v (.bool (x5_5 && t21.2.1)))), (21, (L 6 e_api_Node a0.Kids)), (22, (.v (.int .i64 (a0.Kids.length : Int)))), (23, (.v (.int .i64 (IntKind.i64.wrap (x23_6 + 1)))))], [(4, (.rows true 39 5 ((y4_7 ++ ([t21.1] : List T_api_Service)).map e_api_Service)))]⟩) ?_ ?_
              · refine .cv (VOk.arith (op := .add) (k := .i64) (a := x23_6) (b := 1) rfl rfl rfl rfl) rfl rfl ?_
                refine .cv (VOk.mv (d := (.v (.int .i64 (IntKind.i64.wrap (x23_6 + 1))))) rfl rfl) rfl rfl ?_
                exact .done (.rf rfl rfl)
              exact ⟨m11, Nat.lt_succ_self m11, (y4_7 ++ ([t21.1] : List T_api_Service)), (IntKind.i64.wrap (x23_6 + 1)), (x5_5 && t21.2.1), rfl, H⟩
      · replace H := ifF H hb34
        refine Ok.exit ?_
        refine Ok.seq ?_
        refine Ok.seq ?_
        obtain ⟨t30, h31, H⟩ := bindE H
        refine Ok.region (σ' := ⟨[(4, (.sref 4)), (72, (.v (.bool ((!x5_5) || (!t30)))))], [(4, (.rows true 39 5 (y4_7.map e_api_Service)))]⟩) ?_ ?_
        · refine .cv (VOk.mv (d := (.v (.bool x5_5))) rfl rfl) rfl rfl ?_
          refine .cv (VOk.not (b := x5_5) rfl rfl) rfl rfl ?_
          refine .cv (VOk.mv (d := (.v (.bool (!x5_5)))) rfl rfl) rfl rfl ?_
          refine OpsOk.consI rfl rfl rfl (.one rfl) rfl (fun hw29 => (VOk.g (VOk.mv (d := (.sref 4)) rfl rfl))) ?_
          refine OpsOk.consI rfl rfl rfl (.one rfl) rfl (fun hw29 => (GOk.fr (fr' := [(69, (.sref 4))]) ⟨DLe.of_eq (cT hw29).symm, trivial⟩ (GOk.callV rfl rfl cl27 rfl (services_distinct.ok (ifT h31 hw29)) rfl))) ?_
          refine OpsOk.consI rfl rfl rfl (.one rfl) rfl (fun hw29 => (GOk.fr (fr' := [(70, (.v (.bool t30)))]) ⟨DLe.of_eq (cT hw29).symm, trivial⟩ (VOk.g (VOk.not (b := t30) rfl rfl)))) ?_
          refine .cv (VOk.to (VOk.pickI (b := (!x5_5)) (p := true) (q := (!t30)) rfl rfl (fun hp32 => rfl) (fun hp32 => (cT (f_beq hp32)))) (pickOr (!x5_5) (!t30))) rfl rfl ?_
          exact .done (.rf rfl rfl)
        refine Ok.test (b := ((!x5_5) || (!t30))) rfl (fun hb33 => ?_) (fun hb33 => ?_)
        · replace H := ifT H hb33
          refine Ok.seq ?_
          refine Ok.region (σ' := ⟨[(2, (.v (.slice none 0 0))), (3, (.v (.int .i64 41)))], []⟩) ?_ ?_
          · refine .cv (VOk.asg (d := (.v (.slice none 0 0))) rfl rfl) rfl rfl ?_
            refine .cv (VOk.asg (d := (.v (.int .i64 41))) rfl rfl) rfl rfl ?_
            exact .done (.rf rfl rfl)
          refine Ok.le (σ' := ⟨[(2, (L 5 e_api_Service ([] : List T_api_Service))), (3, (.v (.int .i64 41)))], []⟩) (.mk ⟨.nil _, .same _, trivial⟩ trivial) ?_
          refine Ok.ret ?_
          obtain rfl := Option.some.inj H
          exact ⟨.inl rfl, ⟨_, (.cons (.tmp rfl) (.cons (.tmp rfl) .nil)), rfl⟩, trivial⟩
        · replace H := ifF H hb33
          refine Ok.skip ?_
          refine Ok.seq ?_
          refine Ok.region (σ' := ⟨[(2, (.sref 4)), (3, (.v (.int .i64 0)))], [(4, (.rows true 39 5 (y4_7.map e_api_Service)))]⟩) ?_ ?_
          · refine .cv (VOk.mv (d := (.sref 4)) rfl rfl) rfl rfl ?_
            refine .cv (VOk.asg (d := (.sref 4)) rfl rfl) rfl rfl ?_
            refine .cv (VOk.asg (d := (.v (.int .i64 0))) rfl rfl) rfl rfl ?_
            exact .done (.rf rfl rfl)
          refine Ok.frzL 4 (e := e_api_Service) (xs := y4_7) rfl ?_
          refine Ok.ret ?_
          obtain rfl := Option.some.inj H
          exact ⟨.inl rfl, ⟨_, (.cons (.tmp rfl) (.cons (.tmp rfl) .nil)), rfl⟩, trivial⟩

/-! watchbill/services.Find: function 12 -/
def services_Find.l0 (k : Nat) (a0 : List T_api_Service) (a1 : Str) : Nat → Str → List T_api_Entry → Bool → Str → List Str → Int → Option (T_api_Service × Bool)
  | 0, _, _, _, _, _, _ => none
  | m13 + 1, y4_0_2, y4_1_3, y4_2_4, y4_3_5, y4_4_6, x10_1 => (if (decide (x10_1 < (a0.length : Int))) = true then (if (0 : Int) ≤ x10_1 ∧ x10_1 < (a0.length : Int) then (if (((rd a0 x10_1).URI) == a1) = true then some ((rd a0 x10_1), true) else services_Find.l0 k a0 a1 m13 y4_0_2 y4_1_3 y4_2_4 y4_3_5 y4_4_6 (IntKind.i64.wrap (x10_1 + 1))) else none) else some ((T_api_Service.mk ([] : Str) ([] : List T_api_Entry) false ([] : Str) ([] : List Str)), false))
def services_Find (k : Nat) (a0 : List T_api_Service) (a1 : Str) : Option (T_api_Service × Bool) := services_Find.l0 k a0 a1 k ([] : Str) ([] : List T_api_Entry) false ([] : Str) ([] : List Str) 0
theorem services_Find.ok {k : Nat} {a0 : List T_api_Service} {a1 : Str} {r : T_api_Service × Bool} (H : services_Find k a0 a1 = some r) : Vx.Fn Try.prog 12 [(L 5 e_api_Service a0), (S a1)] [] (.tup [(.agg (e_api_Service r.1)), (.v (.bool r.2))]) [] := by
  unfold services_Find at H
  refine Vx.Fn.of_okR Try.func12 rfl (Nat.le_of_ble_eq_true rfl) ?_
  refine Ok.seq ?_
  refine Ok.region (σ' := ⟨[(0, (L 5 e_api_Service a0)), (1, (S a1)), (4, (.bref 4 0))], [(4, (.box .ex [(S ([] : Str)), (L 4 e_api_Entry ([] : List T_api_Entry)), (.v (.bool false)), (S ([] : Str)), (L 1 eS ([] : List Str))]))]⟩) ?_ ?_
  · refine OpsOk.cons rfl (OpOk.alloc 4 [none, some 4, none, none, some 1] rfl zo39 rfl rfl) ?_
    refine .cv (VOk.asg (d := (.v (.bool false))) rfl rfl) rfl rfl ?_
    exact .done (.rf rfl rfl)
  refine Ok.seq ?_
  refine Ok.seq ?_
  refine Ok.region (σ' := ⟨[(1, (S a1)), (4, (.bref 4 0)), (8, (L 5 e_api_Service a0)), (9, (.v (.int .i64 (a0.length : Int)))), (10, (.v (.int .i64 0)))], [(4, (.box .ex [(S ([] : Str)), (L 4 e_api_Entry ([] : List T_api_Entry)), (.v (.bool false)), (S ([] : Str)), (L 1 eS ([] : List Str))]))]⟩) ?_ ?_
  · refine .cv (VOk.mv (d := (L 5 e_api_Service a0)) rfl rfl) rfl rfl ?_
    refine .cv (VOk.lenL (e := e_api_Service) (xs := a0) rfl Try.underlying30 rfl) rfl rfl ?_
    refine .cv (VOk.mv (d := (.v (.int .i64 0))) rfl rfl) rfl rfl ?_
    exact .done (.rf rfl rfl)
  refine Ok.block ?_
  refine Ok.le (σ' := ⟨[(1, (S a1)), (4, (.bref 4 0)), (8, (L 5 e_api_Service a0)), (9, (.v (.int .i64 (a0.length : Int)))), (10, (.v (.int .i64 0)))], [(4, (.box .ex [(S ([] : Str)), (L 4 e_api_Entry ([] : List T_api_Entry)), (.v (.bool false)), (S ([] : Str)), (L 1 eS ([] : List Str))]))]⟩) (.rf rfl rfl) ?_
  refine Ok.loop (fun m13 σ => ∃ (y4_0_2 : Str) (y4_1_3 : List T_api_Entry) (y4_2_4 : Bool) (y4_3_5 : Str) (y4_4_6 : List Str) (x10_1 : Int), σ = ⟨[(1, (S a1)), (4, (.bref 4 0)), (8, (L 5 e_api_Service a0)), (9, (.v (.int .i64 (a0.length : Int)))), (10, (.v (.int .i64 x10_1)))], [(4, (.box .ex [(S y4_0_2), (L 4 e_api_Entry y4_1_3), (.v (.bool y4_2_4)), (S y4_3_5), (L 1 eS y4_4_6)]))]⟩ ∧ services_Find.l0 k a0 a1 m13 y4_0_2 y4_1_3 y4_2_4 y4_3_5 y4_4_6 x10_1 = some r) k ⟨([] : Str), ([] : List T_api_Entry), false, ([] : Str), ([] : List Str), 0, rfl, H⟩ ?_
  rintro m13 σ ⟨y4_0_2, y4_1_3, y4_2_4, y4_3_5, y4_4_6, x10_1, rfl, H⟩
  cases m13 with
  | zero => exact absurd H (by simp [services_Find.l0])
  | succ m13 =>
    unfold services_Find.l0 at H
    refine Ok.seq ?_
    refine Ok.region (σ' := ⟨[(1, (S a1)), (4, (.bref 4 0)), (8, (L 5 e_api_Service a0)), (9, (.v (.int .i64 (a0.length : Int)))), (10, (.v (.int .i64 x10_1))), (11, (.v (.bool (decide (x10_1 < (a0.length : Int))))))], [(4, (.box .ex [(S y4_0_2), (L 4 e_api_Entry y4_1_3), (.v (.bool y4_2_4)), (S y4_3_5), (L 1 eS y4_4_6)]))]⟩) ?_ ?_
    · refine .cv (VOk.arith (op := .lss) (k := .i64) (a := x10_1) (b := (a0.length : Int)) rfl rfl rfl rfl) rfl rfl ?_
      exact .done (.rf rfl rfl)
    refine Ok.seq ?_
    refine Ok.test (b := (decide (x10_1 < (a0.length : Int)))) rfl (fun hb16 => ?_) (fun hb16 => ?_)
    · replace H := ifT H hb16
      refine Ok.skip ?_
      refine Ok.seq ?_
      refine Ok.block ?_
      refine Ok.seq ?_
      obtain ⟨c14, H⟩ := assertE H
      refine Ok.region (σ' := ⟨[(1, (S a1)), (4, (.bref 4 0)), (7, (.bref 7 0)), (8, (L 5 e_api_Service a0)), (9, (.v (.int .i64 (a0.length : Int)))), (10, (.v (.int .i64 x10_1)))], [(4, (.box .ex [(S y4_0_2), (L 4 e_api_Entry y4_1_3), (.v (.bool y4_2_4)), (S y4_3_5), (L 1 eS y4_4_6)])), (7, (.box .ex (c_api_Service (rd a0 x10_1))))]⟩) ?_ ?_
      · refine .cv (VOk.indexL (sz := 5) (e := e_api_Service) (xs := a0) (i := x10_1) rfl Try.underlying30 sz39 rfl rfl c14) rfl rfl ?_
        refine .cv (VOk.to (d' := (.agg (e_api_Service (rd a0 x10_1)))) (.loadFpAgg rfl Try.underlying39 rfl sz39 rfl rfl) rfl) rfl rfl ?_
        refine OpsOk.cons rfl (OpOk.alloc 7 [none, some 4, none, none, some 1] rfl zo39 rfl rfl) ?_
        refine OpsOk.cons rfl (OpOk.to (σ2 := St.put ⟨_, (7, (.box .ex (c_api_Service (rd a0 x10_1)))) :: _⟩ _ .junk) (.storeB rfl sz39 rfl rfl rfl rfl rfl rfl) rfl) ?_
        exact .done (.rf rfl rfl)
      refine Ok.seq ?_
      refine Ok.region (σ' := ⟨[(1, (S a1)), (4, (.bref 4 0)), (7, (.bref 7 0)), (8, (L 5 e_api_Service a0)), (9, (.v (.int .i64 (a0.length : Int)))), (10, (.v (.int .i64 x10_1))), (17, (.v (.bool (((rd a0 x10_1).URI) == a1))))], [(4, (.box .ex [(S y4_0_2), (L 4 e_api_Entry y4_1_3), (.v (.bool y4_2_4)), (S y4_3_5), (L 1 eS y4_4_6)])), (7, (.box .ex (c_api_Service (rd a0 x10_1))))]⟩) ?_ ?_
      · refine .cv (VOk.to (VOk.fieldB rfl Try.underlying39 rfl sz9 rfl rfl) rfl) rfl rfl ?_
        refine .cv (VOk.loadB (d := (S ((rd a0 x10_1).URI))) rfl Try.underlying9 rfl rfl rfl rfl) rfl rfl ?_
        refine .cv (VOk.mv (d := (S a1)) rfl rfl) rfl rfl ?_
        refine .cv (VOk.strOp (op := .eql) (a := (rd a0 x10_1).URI) (b := a1) rfl rfl rfl rfl) rfl rfl ?_
        exact .done (.rf rfl rfl)
      refine Ok.test (b := (((rd a0 x10_1).URI) == a1)) rfl (fun hb15 => ?_) (fun hb15 => ?_)
      · replace H := ifT H hb15
        refine Ok.seq ?_
        refine Ok.region (σ' := ⟨[(4, (.bref 4 0)), (5, (.v (.bool true)))], [(4, (.box .ex (c_api_Service (rd a0 x10_1))))]⟩) ?_ ?_
        · refine .cv (VOk.to (d' := (.agg (e_api_Service (rd a0 x10_1)))) (.loadBAgg rfl Try.underlying39 rfl sz39 rfl rfl rfl) rfl) rfl rfl ?_
          refine OpsOk.cons rfl (OpOk.to (σ2 := St.put ⟨_, (4, (.box .ex (c_api_Service (rd a0 x10_1)))) :: _⟩ _ .junk) (.storeB rfl sz39 rfl rfl rfl rfl rfl rfl) rfl) ?_
          refine .cv (VOk.asg (d := (.v (.bool true))) rfl rfl) rfl rfl ?_
          exact .done (.rf rfl rfl)
        refine Ok.ret ?_
        obtain rfl := Option.some.inj H
        exact ⟨.inl rfl, ⟨_, (.cons (.cell (VOk.to (d' := (.agg (e_api_Service (rd a0 x10_1)))) (.loadBAgg rfl Try.underlying39 rfl sz39 rfl rfl rfl) rfl)) (.cons (.tmp rfl) .nil)), rfl⟩, trivial⟩
      · replace H := ifF H hb15
        refine Ok.skip ?_
        refine Ok.region (σ' := ⟨[(1, (S a1)), (4, (.bref 4 0)), (8, (L 5 e_api_Service a0)), (9, (.v (.int .i64 (a0.length : Int)))), (10, (.v (.int .i64 (IntKind.i64.wrap (x10_1 + 1)))))], [(4, (.box .ex [(S y4_0_2), (L 4 e_api_Entry y4_1_3), (.v (.bool y4_2_4)), (S y4_3_5), (L 1 eS y4_4_6)]))]⟩) ?_ ?_
        · refine .cv (VOk.arith (op := .add) (k := .i64) (a := x10_1) (b := 1) rfl rfl rfl rfl) rfl rfl ?_
          refine .cv (VOk.mv (d := (.v (.int .i64 (IntKind.i64.wrap (x10_1 + 1))))) rfl rfl) rfl rfl ?_
          exact .done (.rf rfl rfl)
        exact ⟨m13, Nat.lt_succ_self m13, y4_0_2, y4_1_3, y4_2_4, y4_3_5, y4_4_6, (IntKind.i64.wrap (x10_1 + 1)), rfl, H⟩
    · replace H := ifF H hb16
      refine Ok.exit ?_
      refine Ok.seq ?_
      refine Ok.region (σ' := ⟨[(4, (.bref 4 0)), (5, (.v (.bool false)))], [(4, (.box .ex (c_api_Service (T_api_Service.mk ([] : Str) ([] : List T_api_Entry) false ([] : Str) ([] : List Str)))))]⟩) ?_ ?_
      · refine .cv (VOk.to (d' := (.agg (e_api_Service (T_api_Service.mk ([] : Str) ([] : List T_api_Entry) false ([] : Str) ([] : List Str))))) (.build [none, some 4, none, none, some 1] [(0, 1), (1, 1), (2, 1), (3, 1), (4, 1)] rfl Try.underlying39 (fa39 Try.underlying39) zo39 rfl rfl) rfl) rfl rfl ?_
        refine OpsOk.cons rfl (OpOk.to (σ2 := St.put ⟨_, (4, (.box .ex (c_api_Service (T_api_Service.mk ([] : Str) ([] : List T_api_Entry) false ([] : Str) ([] : List Str))))) :: _⟩ _ .junk) (.storeB rfl sz39 rfl rfl rfl rfl rfl rfl) rfl) ?_
        refine .cv (VOk.asg (d := (.v (.bool false))) rfl rfl) rfl rfl ?_
        exact .done (.rf rfl rfl)
      refine Ok.ret ?_
      obtain rfl := Option.some.inj H
      exact ⟨.inl rfl, ⟨_, (.cons (.cell (VOk.to (d' := (.agg (e_api_Service (T_api_Service.mk ([] : Str) ([] : List T_api_Entry) false ([] : Str) ([] : List Str))))) (.loadBAgg rfl Try.underlying39 rfl sz39 rfl rfl rfl) rfl)) (.cons (.tmp rfl) .nil)), rfl⟩, trivial⟩

/-! watchbill/services.Check: function 15 -/
def services_Check (k : Nat) (a0 : T_api_Node) : Option Int := ((services_Decode k a0).bind fun (t1 : (List T_api_Service) × Int) => some t1.2)
theorem services_Check.ok {k : Nat} {a0 : T_api_Node} {r : Int} (H : services_Check k a0 = some r) : Vx.Fn Try.prog 15 [(.agg (e_api_Node a0))] [] (.v (.int .i64 r)) [] := by
  unfold services_Check at H
  refine Vx.Fn.of_okR Try.func15 rfl (Nat.le_of_ble_eq_true rfl) ?_
  refine Ok.seq ?_
  refine Ok.region (σ' := ⟨[(1, (.bref 1 0))], [(1, (.box .ex (c_api_Node a0)))]⟩) ?_ ?_
  · refine OpsOk.cut1 0 (.agg [(.v (.int .i64 a0.Kind)), (S a0.Name.Space), (S a0.Name.Local), (L 3 e_api_Attr a0.Attrs), (L 6 e_api_Node a0.Kids), (S a0.Text)]) (DLe.of_eq (congrArg D.agg (e_api_Node_c _).symm)) ?_
    refine OpsOk.cons rfl (OpOk.box 1 (cells := [(.v (.int .i64 a0.Kind)), (S a0.Name.Space), (S a0.Name.Local), (L 3 e_api_Attr a0.Attrs), (L 6 e_api_Node a0.Kids), (S a0.Text)]) rfl rfl rfl rfl) ?_
    refine .cv (VOk.asg (d := (.v (.int .i64 0))) rfl rfl) rfl rfl ?_
    exact .done (.rf rfl rfl)
  refine Ok.seq ?_
  obtain ⟨t1, h2, H⟩ := bindE H
  refine Ok.region (σ' := ⟨[(4, (.v (.int .i64 t1.2)))], []⟩) ?_ ?_
  · refine .cv (VOk.to (d' := (.agg (e_api_Node a0))) (.loadBAgg rfl Try.underlying27 rfl sz27 rfl rfl rfl) (congrArg D.agg (e_api_Node_c a0).symm)) rfl rfl ?_
    refine .cg (GOk.call rfl rfl cl10 rfl (services_Decode.ok h2) rfl) rfl rfl ?_
    refine .cv (VOk.mv (d := (.tup [(L 5 e_api_Service t1.1), (.v (.int .i64 t1.2))])) rfl rfl) rfl rfl ?_
    refine .cv (VOk.extract (d := (L 5 e_api_Service t1.1)) rfl rfl rfl) rfl rfl ?_
    refine .cv (VOk.extract (d := (.v (.int .i64 t1.2))) rfl rfl rfl) rfl rfl ?_
    refine .cv (VOk.asg (d := (L 5 e_api_Service t1.1)) rfl rfl) rfl rfl ?_
    refine .cv (VOk.asg (d := (.v (.int .i64 t1.2))) rfl rfl) rfl rfl ?_
    exact .done (.rf rfl rfl)
  refine Ok.seq ?_
  refine Ok.region (σ' := ⟨[(2, (.v (.int .i64 t1.2)))], []⟩) ?_ ?_
  · refine .cv (VOk.mv (d := (.v (.int .i64 t1.2))) rfl rfl) rfl rfl ?_
    refine .cv (VOk.asg (d := (.v (.int .i64 t1.2))) rfl rfl) rfl rfl ?_
    exact .done (.rf rfl rfl)
  refine Ok.ret ?_
  obtain rfl := Option.some.inj H
  exact ⟨.inl rfl, ⟨_, (.cons (.tmp rfl) .nil), rfl⟩, trivial⟩

/-! watchbill/watchbilllaw17.awake: function 8 -/
def watchbilllaw17_awake (k : Nat) : Option Bool := ((services_Encode k ([(T_api_Service.mk ([115] : Str) ([(T_api_Entry.mk 1 ([97] : Str) ([] : Str) ([] : List T_api_Entry))] : List T_api_Entry) true ([] : Str) ([] : List Str)), (T_api_Service.mk ([116] : Str) ([] : List T_api_Entry) false ([114] : Str) ([([112, 114, 101, 115, 101, 110, 99, 101] : Str)] : List Str))] : List T_api_Service)).bind fun (t1 : T_api_Node × Int) => ((services_Decode k t1.1).bind fun (t3 : (List T_api_Service) × Int) => ((services_Find k t3.1 ([116] : Str)).bind fun (t5 : T_api_Service × Bool) => (if (0 : Int) ≤ 1 ∧ 1 < (([(T_api_Service.mk ([115] : Str) ([(T_api_Entry.mk 1 ([97] : Str) ([] : Str) ([] : List T_api_Entry))] : List T_api_Entry) true ([] : Str) ([] : List Str)), (T_api_Service.mk ([116] : Str) ([] : List T_api_Entry) false ([114] : Str) ([([112, 114, 101, 115, 101, 110, 99, 101] : Str)] : List Str))] : List T_api_Service).length : Int) then (if (0 : Int) ≤ 1 ∧ 1 < (([(T_api_Service.mk ([115] : Str) ([(T_api_Entry.mk 1 ([97] : Str) ([] : Str) ([] : List T_api_Entry))] : List T_api_Entry) true ([] : Str) ([] : List Str)), (T_api_Service.mk ([116] : Str) ([] : List T_api_Entry) false ([114] : Str) ([([112, 114, 101, 115, 101, 110, 99, 101] : Str)] : List Str))] : List T_api_Service).length : Int) then ((services_Encode k ([(rd ([(T_api_Service.mk ([115] : Str) ([(T_api_Entry.mk 1 ([97] : Str) ([] : Str) ([] : List T_api_Entry))] : List T_api_Entry) true ([] : Str) ([] : List Str)), (T_api_Service.mk ([116] : Str) ([] : List T_api_Entry) false ([114] : Str) ([([112, 114, 101, 115, 101, 110, 99, 101] : Str)] : List Str))] : List T_api_Service) 1), (rd ([(T_api_Service.mk ([115] : Str) ([(T_api_Entry.mk 1 ([97] : Str) ([] : Str) ([] : List T_api_Entry))] : List T_api_Entry) true ([] : Str) ([] : List Str)), (T_api_Service.mk ([116] : Str) ([] : List T_api_Entry) false ([114] : Str) ([([112, 114, 101, 115, 101, 110, 99, 101] : Str)] : List Str))] : List T_api_Service) 1)] : List T_api_Service)).bind fun (t9 : T_api_Node × Int) => (if (((((t1.2 == 0) && (t3.2 == 0)) && ((t3.1.length : Int) == 2)) == true) = true → (0 : Int) ≤ 0 ∧ 0 < (t3.1.length : Int)) then (if ((((((t1.2 == 0) && (t3.2 == 0)) && ((t3.1.length : Int) == 2)) && ((rd t3.1 0).Inline)) == true) = true → (0 : Int) ≤ 0 ∧ 0 < (t3.1.length : Int)) then (((if ((((((((((t1.2 == 0) && (t3.2 == 0)) && ((t3.1.length : Int) == 2)) && ((rd t3.1 0).Inline)) && ((((rd t3.1 0).List_).length : Int) == 1)) && (t5.1.Ref == ([114] : Str))) && ((t5.1.Packages.length : Int) == 1)) && t5.2) && (t9.2 == 41)) == true) = true then services_Check k (T_api_Node.mk 0 (T_api_Name.mk ([] : Str) ([] : Str)) ([] : List T_api_Attr) ([] : List T_api_Node) ([] : Str)) else some default)).bind fun (t30 : Int) => some ((((((((((t1.2 == 0) && (t3.2 == 0)) && ((t3.1.length : Int) == 2)) && ((rd t3.1 0).Inline)) && ((((rd t3.1 0).List_).length : Int) == 1)) && (t5.1.Ref == ([114] : Str))) && ((t5.1.Packages.length : Int) == 1)) && t5.2) && (t9.2 == 41)) && (t30 == 40))) else none) else none)) else none) else none))))
theorem watchbilllaw17_awake.ok {k : Nat} {r : Bool} (H : watchbilllaw17_awake k = some r) : Vx.Fn Try.prog 8 [] [] (.v (.bool r)) [] := by
  unfold watchbilllaw17_awake at H
  refine Vx.Fn.of_okR Try.func8 rfl (Nat.le_of_ble_eq_true rfl) ?_
  refine Ok.seq ?_
  refine Ok.region (σ' := ⟨[], []⟩) ?_ ?_
  · refine .cv (VOk.asg (d := (.v (.bool false))) rfl rfl) rfl rfl ?_
    exact .done (.rf rfl rfl)
  refine Ok.seq ?_
  refine Ok.region (σ' := ⟨[(1, (L 5 e_api_Service ([(T_api_Service.mk ([115] : Str) ([(T_api_Entry.mk 1 ([97] : Str) ([] : Str) ([] : List T_api_Entry))] : List T_api_Entry) true ([] : Str) ([] : List Str)), (T_api_Service.mk ([116] : Str) ([] : List T_api_Entry) false ([114] : Str) ([([112, 114, 101, 115, 101, 110, 99, 101] : Str)] : List Str))] : List T_api_Service)))], []⟩) ?_ ?_
  · refine .cv (VOk.to (d' := (.agg (e_api_Entry (T_api_Entry.mk 1 ([97] : Str) ([] : Str) ([] : List T_api_Entry))))) (.build [none, none, none, some 4] [(0, 1), (1, 1), (2, 1), (3, 1)] rfl Try.underlying56 (fa56 Try.underlying56) zo56 rfl rfl) (congrArg D.agg (e_api_Entry_c (T_api_Entry.mk 1 ([97] : Str) ([] : Str) ([] : List T_api_Entry))).symm)) rfl rfl ?_
    refine .cg (GOk.to (d' := (L 4 e_api_Entry ([(T_api_Entry.mk 1 ([97] : Str) ([] : Str) ([] : List T_api_Entry))] : List T_api_Entry))) (GOk.lit rfl Try.underlying36 sz56 zs56 rfl rfl rfl rfl) rfl) rfl rfl ?_
    refine .cv (VOk.to (d' := (.agg (e_api_Service (T_api_Service.mk ([115] : Str) ([(T_api_Entry.mk 1 ([97] : Str) ([] : Str) ([] : List T_api_Entry))] : List T_api_Entry) true ([] : Str) ([] : List Str))))) (.build [none, some 4, none, none, some 1] [(0, 1), (1, 1), (2, 1), (3, 1), (4, 1)] rfl Try.underlying39 (fa39 Try.underlying39) zo39 rfl rfl) rfl) rfl rfl ?_
    refine .cg (GOk.to (d' := (L 1 eS ([([112, 114, 101, 115, 101, 110, 99, 101] : Str)] : List Str))) (GOk.lit rfl Try.underlying37 sz9 zs9 rfl rfl rfl rfl) rfl) rfl rfl ?_
    refine .cv (VOk.to (d' := (.agg (e_api_Service (T_api_Service.mk ([116] : Str) ([] : List T_api_Entry) false ([114] : Str) ([([112, 114, 101, 115, 101, 110, 99, 101] : Str)] : List Str))))) (.build [none, some 4, none, none, some 1] [(0, 1), (1, 1), (2, 1), (3, 1), (4, 1)] rfl Try.underlying39 (fa39 Try.underlying39) zo39 rfl rfl) rfl) rfl rfl ?_
    refine .cg (GOk.to (d' := (L 5 e_api_Service ([(T_api_Service.mk ([115] : Str) ([(T_api_Entry.mk 1 ([97] : Str) ([] : Str) ([] : List T_api_Entry))] : List T_api_Entry) true ([] : Str) ([] : List Str)), (T_api_Service.mk ([116] : Str) ([] : List T_api_Entry) false ([114] : Str) ([([112, 114, 101, 115, 101, 110, 99, 101] : Str)] : List Str))] : List T_api_Service))) (GOk.lit rfl Try.underlying30 sz39 zs39 rfl rfl rfl rfl) rfl) rfl rfl ?_
    refine .cv (VOk.asg (d := (L 5 e_api_Service ([(T_api_Service.mk ([115] : Str) ([(T_api_Entry.mk 1 ([97] : Str) ([] : Str) ([] : List T_api_Entry))] : List T_api_Entry) true ([] : Str) ([] : List Str)), (T_api_Service.mk ([116] : Str) ([] : List T_api_Entry) false ([114] : Str) ([([112, 114, 101, 115, 101, 110, 99, 101] : Str)] : List Str))] : List T_api_Service))) rfl rfl) rfl rfl ?_
    exact .done (.rf rfl rfl)
  refine Ok.seq ?_
  obtain ⟨t1, h2, H⟩ := bindE H
  refine Ok.region (σ' := ⟨[(1, (L 5 e_api_Service ([(T_api_Service.mk ([115] : Str) ([(T_api_Entry.mk 1 ([97] : Str) ([] : Str) ([] : List T_api_Entry))] : List T_api_Entry) true ([] : Str) ([] : List Str)), (T_api_Service.mk ([116] : Str) ([] : List T_api_Entry) false ([114] : Str) ([([112, 114, 101, 115, 101, 110, 99, 101] : Str)] : List Str))] : List T_api_Service))), (2, (.bref 2 0)), (3, (.v (.int .i64 t1.2)))], [(2, (.box .ex (c_api_Node t1.1)))]⟩) ?_ ?_
  · refine .cv (VOk.mv (d := (L 5 e_api_Service ([(T_api_Service.mk ([115] : Str) ([(T_api_Entry.mk 1 ([97] : Str) ([] : Str) ([] : List T_api_Entry))] : List T_api_Entry) true ([] : Str) ([] : List Str)), (T_api_Service.mk ([116] : Str) ([] : List T_api_Entry) false ([114] : Str) ([([112, 114, 101, 115, 101, 110, 99, 101] : Str)] : List Str))] : List T_api_Service))) rfl rfl) rfl rfl ?_
    refine .cg (GOk.call rfl rfl cl18 rfl (services_Encode.ok h2) rfl) rfl rfl ?_
    refine .cv (VOk.mv (d := (.tup [(.agg (e_api_Node t1.1)), (.v (.int .i64 t1.2))])) rfl rfl) rfl rfl ?_
    refine .cv (VOk.extract (d := (.agg (e_api_Node t1.1))) rfl rfl rfl) rfl rfl ?_
    refine .cv (VOk.extract (d := (.v (.int .i64 t1.2))) rfl rfl rfl) rfl rfl ?_
    refine OpsOk.cons rfl (OpOk.alloc 2 [none, none, none, some 3, some 6, none] rfl zo27 rfl rfl) ?_
    refine OpsOk.cut1 19 (.agg [(.v (.int .i64 t1.1.Kind)), (S t1.1.Name.Space), (S t1.1.Name.Local), (L 3 e_api_Attr t1.1.Attrs), (L 6 e_api_Node t1.1.Kids), (S t1.1.Text)]) (DLe.of_eq (congrArg D.agg (e_api_Node_c _).symm)) ?_
    refine OpsOk.cons rfl (OpOk.to (σ2 := St.put ⟨_, (2, (.box .ex (c_api_Node t1.1))) :: _⟩ _ .junk) (.storeB rfl sz27 rfl rfl rfl rfl rfl rfl) rfl) ?_
    refine .cv (VOk.asg (d := (.v (.int .i64 t1.2))) rfl rfl) rfl rfl ?_
    exact .done (.rf rfl rfl)
  refine Ok.seq ?_
  obtain ⟨t3, h4, H⟩ := bindE H
  refine Ok.region (σ' := ⟨[(1, (L 5 e_api_Service ([(T_api_Service.mk ([115] : Str) ([(T_api_Entry.mk 1 ([97] : Str) ([] : Str) ([] : List T_api_Entry))] : List T_api_Entry) true ([] : Str) ([] : List Str)), (T_api_Service.mk ([116] : Str) ([] : List T_api_Entry) false ([114] : Str) ([([112, 114, 101, 115, 101, 110, 99, 101] : Str)] : List Str))] : List T_api_Service))), (3, (.v (.int .i64 t1.2))), (4, (L 5 e_api_Service t3.1)), (5, (.v (.int .i64 t3.2)))], []⟩) ?_ ?_
  · refine .cv (VOk.to (d' := (.agg (e_api_Node t1.1))) (.loadBAgg rfl Try.underlying27 rfl sz27 rfl rfl rfl) (congrArg D.agg (e_api_Node_c t1.1).symm)) rfl rfl ?_
    refine .cg (GOk.call rfl rfl cl10 rfl (services_Decode.ok h4) rfl) rfl rfl ?_
    refine .cv (VOk.mv (d := (.tup [(L 5 e_api_Service t3.1), (.v (.int .i64 t3.2))])) rfl rfl) rfl rfl ?_
    refine .cv (VOk.extract (d := (L 5 e_api_Service t3.1)) rfl rfl rfl) rfl rfl ?_
    refine .cv (VOk.extract (d := (.v (.int .i64 t3.2))) rfl rfl rfl) rfl rfl ?_
    refine .cv (VOk.asg (d := (L 5 e_api_Service t3.1)) rfl rfl) rfl rfl ?_
    refine .cv (VOk.asg (d := (.v (.int .i64 t3.2))) rfl rfl) rfl rfl ?_
    exact .done (.rf rfl rfl)
  refine Ok.seq ?_
  obtain ⟨t5, h6, H⟩ := bindE H
  refine Ok.region (σ' := ⟨[(1, (L 5 e_api_Service ([(T_api_Service.mk ([115] : Str) ([(T_api_Entry.mk 1 ([97] : Str) ([] : Str) ([] : List T_api_Entry))] : List T_api_Entry) true ([] : Str) ([] : List Str)), (T_api_Service.mk ([116] : Str) ([] : List T_api_Entry) false ([114] : Str) ([([112, 114, 101, 115, 101, 110, 99, 101] : Str)] : List Str))] : List T_api_Service))), (3, (.v (.int .i64 t1.2))), (4, (L 5 e_api_Service t3.1)), (5, (.v (.int .i64 t3.2))), (6, (.bref 6 0)), (7, (.v (.bool t5.2)))], [(6, (.box .ex (c_api_Service t5.1)))]⟩) ?_ ?_
  · refine .cv (VOk.mv (d := (L 5 e_api_Service t3.1)) rfl rfl) rfl rfl ?_
    refine .cg (GOk.call rfl rfl cl12 rfl (services_Find.ok h6) rfl) rfl rfl ?_
    refine .cv (VOk.mv (d := (.tup [(.agg (e_api_Service t5.1)), (.v (.bool t5.2))])) rfl rfl) rfl rfl ?_
    refine .cv (VOk.extract (d := (.agg (e_api_Service t5.1))) rfl rfl rfl) rfl rfl ?_
    refine .cv (VOk.extract (d := (.v (.bool t5.2))) rfl rfl rfl) rfl rfl ?_
    refine OpsOk.cons rfl (OpOk.alloc 6 [none, some 4, none, none, some 1] rfl zo39 rfl rfl) ?_
    refine OpsOk.cons rfl (OpOk.to (σ2 := St.put ⟨_, (6, (.box .ex (c_api_Service t5.1))) :: _⟩ _ .junk) (.storeB rfl sz39 rfl rfl rfl rfl rfl rfl) rfl) ?_
    refine .cv (VOk.asg (d := (.v (.bool t5.2))) rfl rfl) rfl rfl ?_
    exact .done (.rf rfl rfl)
  refine Ok.seq ?_
  obtain ⟨c7, H⟩ := assertE H
  obtain ⟨c8, H⟩ := assertE H
  obtain ⟨t9, h10, H⟩ := bindE H
  refine Ok.le (σ' := ⟨[(1, (L 5 e_api_Service ([(T_api_Service.mk ([115] : Str) ([(T_api_Entry.mk 1 ([97] : Str) ([] : Str) ([] : List T_api_Entry))] : List T_api_Entry) true ([] : Str) ([] : List Str)), (T_api_Service.mk ([116] : Str) ([] : List T_api_Entry) false ([114] : Str) ([([112, 114, 101, 115, 101, 110, 99, 101] : Str)] : List Str))] : List T_api_Service))), (3, (.v (.int .i64 t1.2))), (4, (L 5 e_api_Service t3.1)), (5, (.v (.int .i64 t3.2))), (6, (.bref 6 0)), (7, (.v (.bool t5.2)))], [(6, (.box .ex (c_api_Service t5.1)))]⟩) (.rf rfl rfl) ?_
  refine Ok.drawE2 (σ' := ⟨[(3, (.v (.int .i64 t1.2))), (4, (L 5 e_api_Service t3.1)), (5, (.v (.int .i64 t3.2))), (6, (.bref 6 0)), (7, (.v (.bool t5.2))), (9, (.v (.int .i64 t9.2)))], [(6, (.box .ex (c_api_Service t5.1)))]⟩) [⟨true, [(1, (L 5 e_api_Service ([(T_api_Service.mk ([115] : Str) ([(T_api_Entry.mk 1 ([97] : Str) ([] : Str) ([] : List T_api_Entry))] : List T_api_Entry) true ([] : Str) ([] : List Str)), (T_api_Service.mk ([116] : Str) ([] : List T_api_Entry) false ([114] : Str) ([([112, 114, 101, 115, 101, 110, 99, 101] : Str)] : List Str))] : List T_api_Service)))], [], (L 5 e_api_Service ([(T_api_Service.mk ([115] : Str) ([(T_api_Entry.mk 1 ([97] : Str) ([] : Str) ([] : List T_api_Entry))] : List T_api_Entry) true ([] : Str) ([] : List Str)), (T_api_Service.mk ([116] : Str) ([] : List T_api_Entry) false ([114] : Str) ([([112, 114, 101, 115, 101, 110, 99, 101] : Str)] : List Str))] : List T_api_Service)), [], false, []⟩, ⟨true, [(32, (L 5 e_api_Service ([(T_api_Service.mk ([115] : Str) ([(T_api_Entry.mk 1 ([97] : Str) ([] : Str) ([] : List T_api_Entry))] : List T_api_Entry) true ([] : Str) ([] : List Str)), (T_api_Service.mk ([116] : Str) ([] : List T_api_Entry) false ([114] : Str) ([([112, 114, 101, 115, 101, 110, 99, 101] : Str)] : List Str))] : List T_api_Service)))], [], (.fp (e_api_Service (rd ([(T_api_Service.mk ([115] : Str) ([(T_api_Entry.mk 1 ([97] : Str) ([] : Str) ([] : List T_api_Entry))] : List T_api_Entry) true ([] : Str) ([] : List Str)), (T_api_Service.mk ([116] : Str) ([] : List T_api_Entry) false ([114] : Str) ([([112, 114, 101, 115, 101, 110, 99, 101] : Str)] : List Str))] : List T_api_Service) 1)) 0), [], false, []⟩, ⟨true, [(33, (.fp (e_api_Service (rd ([(T_api_Service.mk ([115] : Str) ([(T_api_Entry.mk 1 ([97] : Str) ([] : Str) ([] : List T_api_Entry))] : List T_api_Entry) true ([] : Str) ([] : List Str)), (T_api_Service.mk ([116] : Str) ([] : List T_api_Entry) false ([114] : Str) ([([112, 114, 101, 115, 101, 110, 99, 101] : Str)] : List Str))] : List T_api_Service) 1)) 0))], [], (.agg (e_api_Service (rd ([(T_api_Service.mk ([115] : Str) ([(T_api_Entry.mk 1 ([97] : Str) ([] : Str) ([] : List T_api_Entry))] : List T_api_Entry) true ([] : Str) ([] : List Str)), (T_api_Service.mk ([116] : Str) ([] : List T_api_Entry) false ([114] : Str) ([([112, 114, 101, 115, 101, 110, 99, 101] : Str)] : List Str))] : List T_api_Service) 1))), [], false, []⟩, ⟨true, [(1, (L 5 e_api_Service ([(T_api_Service.mk ([115] : Str) ([(T_api_Entry.mk 1 ([97] : Str) ([] : Str) ([] : List T_api_Entry))] : List T_api_Entry) true ([] : Str) ([] : List Str)), (T_api_Service.mk ([116] : Str) ([] : List T_api_Entry) false ([114] : Str) ([([112, 114, 101, 115, 101, 110, 99, 101] : Str)] : List Str))] : List T_api_Service)))], [], (L 5 e_api_Service ([(T_api_Service.mk ([115] : Str) ([(T_api_Entry.mk 1 ([97] : Str) ([] : Str) ([] : List T_api_Entry))] : List T_api_Entry) true ([] : Str) ([] : List Str)), (T_api_Service.mk ([116] : Str) ([] : List T_api_Entry) false ([114] : Str) ([([112, 114, 101, 115, 101, 110, 99, 101] : Str)] : List Str))] : List T_api_Service)), [], false, []⟩, ⟨true, [(35, (L 5 e_api_Service ([(T_api_Service.mk ([115] : Str) ([(T_api_Entry.mk 1 ([97] : Str) ([] : Str) ([] : List T_api_Entry))] : List T_api_Entry) true ([] : Str) ([] : List Str)), (T_api_Service.mk ([116] : Str) ([] : List T_api_Entry) false ([114] : Str) ([([112, 114, 101, 115, 101, 110, 99, 101] : Str)] : List Str))] : List T_api_Service)))], [], (.fp (e_api_Service (rd ([(T_api_Service.mk ([115] : Str) ([(T_api_Entry.mk 1 ([97] : Str) ([] : Str) ([] : List T_api_Entry))] : List T_api_Entry) true ([] : Str) ([] : List Str)), (T_api_Service.mk ([116] : Str) ([] : List T_api_Entry) false ([114] : Str) ([([112, 114, 101, 115, 101, 110, 99, 101] : Str)] : List Str))] : List T_api_Service) 1)) 0), [], false, []⟩, ⟨true, [(36, (.fp (e_api_Service (rd ([(T_api_Service.mk ([115] : Str) ([(T_api_Entry.mk 1 ([97] : Str) ([] : Str) ([] : List T_api_Entry))] : List T_api_Entry) true ([] : Str) ([] : List Str)), (T_api_Service.mk ([116] : Str) ([] : List T_api_Entry) false ([114] : Str) ([([112, 114, 101, 115, 101, 110, 99, 101] : Str)] : List Str))] : List T_api_Service) 1)) 0))], [], (.agg (e_api_Service (rd ([(T_api_Service.mk ([115] : Str) ([(T_api_Entry.mk 1 ([97] : Str) ([] : Str) ([] : List T_api_Entry))] : List T_api_Entry) true ([] : Str) ([] : List Str)), (T_api_Service.mk ([116] : Str) ([] : List T_api_Entry) false ([114] : Str) ([([112, 114, 101, 115, 101, 110, 99, 101] : Str)] : List Str))] : List T_api_Service) 1))), [], false, []⟩, ⟨true, [(34, (.agg (e_api_Service (rd ([(T_api_Service.mk ([115] : Str) ([(T_api_Entry.mk 1 ([97] : Str) ([] : Str) ([] : List T_api_Entry))] : List T_api_Entry) true ([] : Str) ([] : List Str)), (T_api_Service.mk ([116] : Str) ([] : List T_api_Entry) false ([114] : Str) ([([112, 114, 101, 115, 101, 110, 99, 101] : Str)] : List Str))] : List T_api_Service) 1)))), (37, (.agg (e_api_Service (rd ([(T_api_Service.mk ([115] : Str) ([(T_api_Entry.mk 1 ([97] : Str) ([] : Str) ([] : List T_api_Entry))] : List T_api_Entry) true ([] : Str) ([] : List Str)), (T_api_Service.mk ([116] : Str) ([] : List T_api_Entry) false ([114] : Str) ([([112, 114, 101, 115, 101, 110, 99, 101] : Str)] : List Str))] : List T_api_Service) 1))))], [], (L 5 e_api_Service ([(rd ([(T_api_Service.mk ([115] : Str) ([(T_api_Entry.mk 1 ([97] : Str) ([] : Str) ([] : List T_api_Entry))] : List T_api_Entry) true ([] : Str) ([] : List Str)), (T_api_Service.mk ([116] : Str) ([] : List T_api_Entry) false ([114] : Str) ([([112, 114, 101, 115, 101, 110, 99, 101] : Str)] : List Str))] : List T_api_Service) 1), (rd ([(T_api_Service.mk ([115] : Str) ([(T_api_Entry.mk 1 ([97] : Str) ([] : Str) ([] : List T_api_Entry))] : List T_api_Entry) true ([] : Str) ([] : List Str)), (T_api_Service.mk ([116] : Str) ([] : List T_api_Entry) false ([114] : Str) ([([112, 114, 101, 115, 101, 110, 99, 101] : Str)] : List Str))] : List T_api_Service) 1)] : List T_api_Service)), [], false, []⟩, ⟨true, [(38, (L 5 e_api_Service ([(rd ([(T_api_Service.mk ([115] : Str) ([(T_api_Entry.mk 1 ([97] : Str) ([] : Str) ([] : List T_api_Entry))] : List T_api_Entry) true ([] : Str) ([] : List Str)), (T_api_Service.mk ([116] : Str) ([] : List T_api_Entry) false ([114] : Str) ([([112, 114, 101, 115, 101, 110, 99, 101] : Str)] : List Str))] : List T_api_Service) 1), (rd ([(T_api_Service.mk ([115] : Str) ([(T_api_Entry.mk 1 ([97] : Str) ([] : Str) ([] : List T_api_Entry))] : List T_api_Entry) true ([] : Str) ([] : List Str)), (T_api_Service.mk ([116] : Str) ([] : List T_api_Entry) false ([114] : Str) ([([112, 114, 101, 115, 101, 110, 99, 101] : Str)] : List Str))] : List T_api_Service) 1)] : List T_api_Service)))], [], (.tup [(.agg (e_api_Node t9.1)), (.v (.int .i64 t9.2))]), [], false, []⟩, ⟨true, [(39, (.tup [(.agg (e_api_Node t9.1)), (.v (.int .i64 t9.2))]))], [], (.tup [(.agg (e_api_Node t9.1)), (.v (.int .i64 t9.2))]), [], false, []⟩, ⟨true, [(31, (.tup [(.agg (e_api_Node t9.1)), (.v (.int .i64 t9.2))]))], [], (.agg (e_api_Node t9.1)), [], false, []⟩, ⟨true, [(31, (.tup [(.agg (e_api_Node t9.1)), (.v (.int .i64 t9.2))]))], [], (.v (.int .i64 t9.2)), [], false, []⟩, ⟨true, [], [], (.bref 8 0), [(8, (.box .ex [(.v (.int .i64 0)), (S ([] : Str)), (S ([] : Str)), (L 3 e_api_Attr ([] : List T_api_Attr)), (L 6 e_api_Node ([] : List T_api_Node)), (S ([] : Str))]))], true, []⟩, ⟨true, [(8, (.bref 8 0)), (40, (.agg [(.v (.int .i64 t9.1.Kind)), (S t9.1.Name.Space), (S t9.1.Name.Local), (L 3 e_api_Attr t9.1.Attrs), (L 6 e_api_Node t9.1.Kids), (S t9.1.Text)]))], [(8, (.box .ex [(.v (.int .i64 0)), (S ([] : Str)), (S ([] : Str)), (L 3 e_api_Attr ([] : List T_api_Attr)), (L 6 e_api_Node ([] : List T_api_Node)), (S ([] : Str))]))], .junk, [(8, (.box .ex (c_api_Node t9.1)))], false, []⟩, ⟨true, [(41, (.v (.int .i64 t9.2)))], [], (.v (.int .i64 t9.2)), [], false, []⟩] [[], [0], [1], [], [3], [4], [2, 5], [6], [7], [8], [8], [], [9, 11], [10]] mixed (by kernel_rfl) ?_ ?_
  · refine TxtE2.cons ⟨.same _, trivial⟩ trivial (It2.val rfl rfl (fun T hT => (VOk.g (VOk.mv (d := (L 5 e_api_Service ([(T_api_Service.mk ([115] : Str) ([(T_api_Entry.mk 1 ([97] : Str) ([] : Str) ([] : List T_api_Entry))] : List T_api_Entry) true ([] : Str) ([] : List Str)), (T_api_Service.mk ([116] : Str) ([] : List T_api_Entry) false ([114] : Str) ([([112, 114, 101, 115, 101, 110, 99, 101] : Str)] : List Str))] : List T_api_Service))) rfl rfl)))) ?_
    refine TxtE2.cons ⟨.same _, trivial⟩ trivial (It2.val rfl rfl (fun T hT => (VOk.g (VOk.indexL (sz := 5) (e := e_api_Service) (xs := ([(T_api_Service.mk ([115] : Str) ([(T_api_Entry.mk 1 ([97] : Str) ([] : Str) ([] : List T_api_Entry))] : List T_api_Entry) true ([] : Str) ([] : List Str)), (T_api_Service.mk ([116] : Str) ([] : List T_api_Entry) false ([114] : Str) ([([112, 114, 101, 115, 101, 110, 99, 101] : Str)] : List Str))] : List T_api_Service)) (i := 1) rfl Try.underlying30 sz39 rfl rfl c7)))) ?_
    refine TxtE2.cons ⟨.same _, trivial⟩ trivial (It2.val rfl rfl (fun T hT => (VOk.g (VOk.to (d' := (.agg (e_api_Service (rd ([(T_api_Service.mk ([115] : Str) ([(T_api_Entry.mk 1 ([97] : Str) ([] : Str) ([] : List T_api_Entry))] : List T_api_Entry) true ([] : Str) ([] : List Str)), (T_api_Service.mk ([116] : Str) ([] : List T_api_Entry) false ([114] : Str) ([([112, 114, 101, 115, 101, 110, 99, 101] : Str)] : List Str))] : List T_api_Service) 1)))) (.loadFpAgg rfl Try.underlying39 rfl sz39 rfl rfl) rfl)))) ?_
    refine TxtE2.cons ⟨.same _, trivial⟩ trivial (It2.val rfl rfl (fun T hT => (VOk.g (VOk.mv (d := (L 5 e_api_Service ([(T_api_Service.mk ([115] : Str) ([(T_api_Entry.mk 1 ([97] : Str) ([] : Str) ([] : List T_api_Entry))] : List T_api_Entry) true ([] : Str) ([] : List Str)), (T_api_Service.mk ([116] : Str) ([] : List T_api_Entry) false ([114] : Str) ([([112, 114, 101, 115, 101, 110, 99, 101] : Str)] : List Str))] : List T_api_Service))) rfl rfl)))) ?_
    refine TxtE2.cons ⟨.same _, trivial⟩ trivial (It2.val rfl rfl (fun T hT => (VOk.g (VOk.indexL (sz := 5) (e := e_api_Service) (xs := ([(T_api_Service.mk ([115] : Str) ([(T_api_Entry.mk 1 ([97] : Str) ([] : Str) ([] : List T_api_Entry))] : List T_api_Entry) true ([] : Str) ([] : List Str)), (T_api_Service.mk ([116] : Str) ([] : List T_api_Entry) false ([114] : Str) ([([112, 114, 101, 115, 101, 110, 99, 101] : Str)] : List Str))] : List T_api_Service)) (i := 1) rfl Try.underlying30 sz39 rfl rfl c8)))) ?_
    refine TxtE2.cons ⟨.same _, trivial⟩ trivial (It2.val rfl rfl (fun T hT => (VOk.g (VOk.to (d' := (.agg (e_api_Service (rd ([(T_api_Service.mk ([115] : Str) ([(T_api_Entry.mk 1 ([97] : Str) ([] : Str) ([] : List T_api_Entry))] : List T_api_Entry) true ([] : Str) ([] : List Str)), (T_api_Service.mk ([116] : Str) ([] : List T_api_Entry) false ([114] : Str) ([([112, 114, 101, 115, 101, 110, 99, 101] : Str)] : List Str))] : List T_api_Service) 1)))) (.loadFpAgg rfl Try.underlying39 rfl sz39 rfl rfl) rfl)))) ?_
    refine TxtE2.cons ⟨.same _, .same _, trivial⟩ trivial (It2.val rfl rfl (fun T hT => (GOk.to (d' := (L 5 e_api_Service ([(rd ([(T_api_Service.mk ([115] : Str) ([(T_api_Entry.mk 1 ([97] : Str) ([] : Str) ([] : List T_api_Entry))] : List T_api_Entry) true ([] : Str) ([] : List Str)), (T_api_Service.mk ([116] : Str) ([] : List T_api_Entry) false ([114] : Str) ([([112, 114, 101, 115, 101, 110, 99, 101] : Str)] : List Str))] : List T_api_Service) 1), (rd ([(T_api_Service.mk ([115] : Str) ([(T_api_Entry.mk 1 ([97] : Str) ([] : Str) ([] : List T_api_Entry))] : List T_api_Entry) true ([] : Str) ([] : List Str)), (T_api_Service.mk ([116] : Str) ([] : List T_api_Entry) false ([114] : Str) ([([112, 114, 101, 115, 101, 110, 99, 101] : Str)] : List Str))] : List T_api_Service) 1)] : List T_api_Service))) (GOk.lit rfl Try.underlying30 sz39 zs39 rfl rfl rfl rfl) rfl))) ?_
    refine TxtE2.cons ⟨.same _, trivial⟩ trivial (It2.val rfl rfl (fun T hT => (GOk.call rfl rfl cl18 rfl (services_Encode.ok h10) rfl))) ?_
    refine TxtE2.cons ⟨.same _, trivial⟩ trivial (It2.val rfl rfl (fun T hT => (VOk.g (VOk.mv (d := (.tup [(.agg (e_api_Node t9.1)), (.v (.int .i64 t9.2))])) rfl rfl)))) ?_
    refine TxtE2.cons ⟨.same _, trivial⟩ trivial (It2.val rfl rfl (fun T hT => (VOk.g (VOk.extract (d := (.agg (e_api_Node t9.1))) rfl rfl rfl)))) ?_
    refine TxtE2.cons ⟨.same _, trivial⟩ trivial (It2.val rfl rfl (fun T hT => (VOk.g (VOk.extract (d := (.v (.int .i64 t9.2))) rfl rfl rfl)))) ?_
    refine TxtE2.cons trivial trivial (It2.alloc 8 [none, none, none, some 3, some 6, none] rfl rfl zo27 rfl rfl) ?_
    refine TxtE2.cons ⟨.same _, DLe.of_eq (congrArg D.agg (e_api_Node_c _).symm), trivial⟩ ⟨rfl, trivial⟩ (It2.store rfl rfl sz27 rfl rfl rfl rfl rfl rfl rfl rfl) ?_
    refine TxtE2.cons ⟨.same _, trivial⟩ trivial (It2.val rfl rfl (fun T hT => (VOk.g (VOk.asg (d := (.v (.int .i64 t9.2))) rfl rfl)))) ?_
    exact .done (.rf rfl rfl)
  refine Ok.seq ?_
  obtain ⟨c16, H⟩ := assertE H
  obtain ⟨c19, H⟩ := assertE H
  obtain ⟨t30, h31, H⟩ := bindE H
  refine Ok.region (σ' := ⟨[(0, (.v (.bool ((((((((((t1.2 == 0) && (t3.2 == 0)) && ((t3.1.length : Int) == 2)) && ((rd t3.1 0).Inline)) && ((((rd t3.1 0).List_).length : Int) == 1)) && (t5.1.Ref == ([114] : Str))) && ((t5.1.Packages.length : Int) == 1)) && t5.2) && (t9.2 == 41)) && (t30 == 40)))))], []⟩) ?_ ?_
  · refine .cv (VOk.mv (d := (.v (.int .i64 t1.2))) rfl rfl) rfl rfl ?_
    refine .cv (VOk.arith (op := .eql) (k := .i64) (a := t1.2) (b := 0) rfl rfl rfl rfl) rfl rfl ?_
    refine .cv (VOk.mv (d := (.v (.bool (t1.2 == 0)))) rfl rfl) rfl rfl ?_
    refine OpsOk.consI rfl rfl rfl (.one rfl) rfl (fun hw11 => (VOk.g (VOk.mv (d := (.v (.int .i64 t3.2))) rfl rfl))) ?_
    refine OpsOk.consI rfl rfl rfl (.one rfl) rfl (fun hw11 => (GOk.fr (fr' := [(45, (.v (.int .i64 t3.2)))]) ⟨DLe.of_eq (cT hw11).symm, trivial⟩ (VOk.g (VOk.arith (op := .eql) (k := .i64) (a := t3.2) (b := 0) rfl rfl rfl rfl)))) ?_
    refine .cv (VOk.to (VOk.pickI (b := (t1.2 == 0)) (p := (t3.2 == 0)) (q := false) rfl rfl (fun hp12 => (cT (t_beq hp12))) (fun hp12 => rfl)) (pickAnd (t1.2 == 0) (t3.2 == 0))) rfl rfl ?_
    refine .cv (VOk.mv (d := (.v (.bool ((t1.2 == 0) && (t3.2 == 0))))) rfl rfl) rfl rfl ?_
    refine OpsOk.consI rfl rfl rfl (.one rfl) rfl (fun hw13 => (VOk.g (VOk.mv (d := (L 5 e_api_Service t3.1)) rfl rfl))) ?_
    refine OpsOk.consI rfl rfl rfl (.one rfl) rfl (fun hw13 => (GOk.fr (fr' := [(49, (L 5 e_api_Service t3.1))]) ⟨DLe.of_eq (cT hw13).symm, trivial⟩ (VOk.g (VOk.lenL (e := e_api_Service) (xs := t3.1) rfl Try.underlying30 rfl)))) ?_
    refine OpsOk.consI rfl rfl rfl (.one rfl) rfl (fun hw13 => (GOk.fr (fr' := [(50, (.v (.int .i64 (t3.1.length : Int))))]) ⟨DLe.of_eq (cT hw13).symm, trivial⟩ (VOk.g (VOk.arith (op := .eql) (k := .i64) (a := (t3.1.length : Int)) (b := 2) rfl rfl rfl rfl)))) ?_
    refine .cv (VOk.to (VOk.pickI (b := ((t1.2 == 0) && (t3.2 == 0))) (p := ((t3.1.length : Int) == 2)) (q := false) rfl rfl (fun hp14 => (cT (t_beq hp14))) (fun hp14 => rfl)) (pickAnd ((t1.2 == 0) && (t3.2 == 0)) ((t3.1.length : Int) == 2))) rfl rfl ?_
    refine .cv (VOk.mv (d := (.v (.bool (((t1.2 == 0) && (t3.2 == 0)) && ((t3.1.length : Int) == 2))))) rfl rfl) rfl rfl ?_
    refine OpsOk.consI rfl rfl rfl (.one rfl) rfl (fun hw15 => (VOk.g (VOk.mv (d := (L 5 e_api_Service t3.1)) rfl rfl))) ?_
    refine OpsOk.consI rfl rfl rfl (.one rfl) rfl (fun hw15 => (GOk.fr (fr' := [(54, (L 5 e_api_Service t3.1))]) ⟨DLe.of_eq (cT hw15).symm, trivial⟩ (VOk.g (VOk.indexL (sz := 5) (e := e_api_Service) (xs := t3.1) (i := 0) rfl Try.underlying30 sz39 rfl rfl (c16 hw15))))) ?_
    refine OpsOk.consI rfl rfl rfl (.one rfl) rfl (fun hw15 => (GOk.fr (fr' := [(55, (.fp (e_api_Service (rd t3.1 0)) 0))]) ⟨DLe.of_eq (cT hw15).symm, trivial⟩ (VOk.g (VOk.to (VOk.fieldFp rfl Try.underlying39 rfl sz4 rfl) rfl)))) ?_
    refine OpsOk.consI rfl rfl rfl (.one rfl) rfl (fun hw15 => (GOk.fr (fr' := [(56, (.fp (e_api_Service (rd t3.1 0)) 2))]) ⟨DLe.of_eq (cT hw15).symm, trivial⟩ (VOk.g (VOk.loadFp (d := (.v (.bool ((rd t3.1 0).Inline)))) rfl Try.underlying4 rfl rfl rfl)))) ?_
    refine .cv (VOk.to (VOk.pickI (b := (((t1.2 == 0) && (t3.2 == 0)) && ((t3.1.length : Int) == 2))) (p := (rd t3.1 0).Inline) (q := false) rfl rfl (fun hp17 => (cT (t_beq hp17))) (fun hp17 => rfl)) (pickAnd (((t1.2 == 0) && (t3.2 == 0)) && ((t3.1.length : Int) == 2)) ((rd t3.1 0).Inline))) rfl rfl ?_
    refine .cv (VOk.mv (d := (.v (.bool ((((t1.2 == 0) && (t3.2 == 0)) && ((t3.1.length : Int) == 2)) && ((rd t3.1 0).Inline))))) rfl rfl) rfl rfl ?_
    refine OpsOk.consI rfl rfl rfl (.one rfl) rfl (fun hw18 => (VOk.g (VOk.mv (d := (L 5 e_api_Service t3.1)) rfl rfl))) ?_
    refine OpsOk.consI rfl rfl rfl (.one rfl) rfl (fun hw18 => (GOk.fr (fr' := [(60, (L 5 e_api_Service t3.1))]) ⟨DLe.of_eq (cT hw18).symm, trivial⟩ (VOk.g (VOk.indexL (sz := 5) (e := e_api_Service) (xs := t3.1) (i := 0) rfl Try.underlying30 sz39 rfl rfl (c19 hw18))))) ?_
    refine OpsOk.consI rfl rfl rfl (.one rfl) rfl (fun hw18 => (GOk.fr (fr' := [(61, (.fp (e_api_Service (rd t3.1 0)) 0))]) ⟨DLe.of_eq (cT hw18).symm, trivial⟩ (VOk.g (VOk.to (VOk.fieldFp rfl Try.underlying39 rfl sz36 rfl) rfl)))) ?_
    refine OpsOk.consI rfl rfl rfl (.one rfl) rfl (fun hw18 => (GOk.fr (fr' := [(62, (.fp (e_api_Service (rd t3.1 0)) 1))]) ⟨DLe.of_eq (cT hw18).symm, trivial⟩ (VOk.g (VOk.loadFp (d := (L 4 e_api_Entry ((rd t3.1 0).List_))) rfl Try.underlying36 rfl rfl rfl)))) ?_
    refine OpsOk.consI rfl rfl rfl (.one rfl) rfl (fun hw18 => (GOk.fr (fr' := [(63, (L 4 e_api_Entry ((rd t3.1 0).List_)))]) ⟨DLe.of_eq (cT hw18).symm, trivial⟩ (VOk.g (VOk.lenL (e := e_api_Entry) (xs := (rd t3.1 0).List_) rfl Try.underlying36 rfl)))) ?_
    refine OpsOk.consI rfl rfl rfl (.one rfl) rfl (fun hw18 => (GOk.fr (fr' := [(64, (.v (.int .i64 (((rd t3.1 0).List_).length : Int))))]) ⟨DLe.of_eq (cT hw18).symm, trivial⟩ (VOk.g (VOk.arith (op := .eql) (k := .i64) (a := (((rd t3.1 0).List_).length : Int)) (b := 1) rfl rfl rfl rfl)))) ?_
    refine .cv (VOk.to (VOk.pickI (b := ((((t1.2 == 0) && (t3.2 == 0)) && ((t3.1.length : Int) == 2)) && ((rd t3.1 0).Inline))) (p := ((((rd t3.1 0).List_).length : Int) == 1)) (q := false) rfl rfl (fun hp20 => (cT (t_beq hp20))) (fun hp20 => rfl)) (pickAnd ((((t1.2 == 0) && (t3.2 == 0)) && ((t3.1.length : Int) == 2)) && ((rd t3.1 0).Inline)) ((((rd t3.1 0).List_).length : Int) == 1))) rfl rfl ?_
    refine .cv (VOk.mv (d := (.v (.bool (((((t1.2 == 0) && (t3.2 == 0)) && ((t3.1.length : Int) == 2)) && ((rd t3.1 0).Inline)) && ((((rd t3.1 0).List_).length : Int) == 1))))) rfl rfl) rfl rfl ?_
    refine OpsOk.consI rfl rfl rfl (.one rfl) rfl (fun hw21 => (VOk.g (VOk.to (VOk.fieldB rfl Try.underlying39 rfl sz9 rfl rfl) rfl))) ?_
    refine OpsOk.consI rfl rfl rfl (.one rfl) rfl (fun hw21 => (GOk.fr (fr' := [(68, (.bref 6 3))]) ⟨DLe.of_eq (cT hw21).symm, trivial⟩ (VOk.g (VOk.loadB (d := (S t5.1.Ref)) rfl Try.underlying9 rfl rfl rfl rfl)))) ?_
    refine OpsOk.consI rfl rfl rfl (.one rfl) rfl (fun hw21 => (GOk.fr (fr' := [(69, (S t5.1.Ref))]) ⟨DLe.of_eq (cT hw21).symm, trivial⟩ (VOk.g (VOk.strOp (op := .eql) (a := t5.1.Ref) (b := ([114] : Str)) rfl rfl rfl rfl)))) ?_
    refine .cv (VOk.to (VOk.pickI (b := (((((t1.2 == 0) && (t3.2 == 0)) && ((t3.1.length : Int) == 2)) && ((rd t3.1 0).Inline)) && ((((rd t3.1 0).List_).length : Int) == 1))) (p := (t5.1.Ref == ([114] : Str))) (q := false) rfl rfl (fun hp22 => (cT (t_beq hp22))) (fun hp22 => rfl)) (pickAnd (((((t1.2 == 0) && (t3.2 == 0)) && ((t3.1.length : Int) == 2)) && ((rd t3.1 0).Inline)) && ((((rd t3.1 0).List_).length : Int) == 1)) (t5.1.Ref == ([114] : Str)))) rfl rfl ?_
    refine .cv (VOk.mv (d := (.v (.bool ((((((t1.2 == 0) && (t3.2 == 0)) && ((t3.1.length : Int) == 2)) && ((rd t3.1 0).Inline)) && ((((rd t3.1 0).List_).length : Int) == 1)) && (t5.1.Ref == ([114] : Str)))))) rfl rfl) rfl rfl ?_
    refine OpsOk.consI rfl rfl rfl (.one rfl) rfl (fun hw23 => (VOk.g (VOk.to (VOk.fieldB rfl Try.underlying39 rfl sz37 rfl rfl) rfl))) ?_
    refine OpsOk.consI rfl rfl rfl (.one rfl) rfl (fun hw23 => (GOk.fr (fr' := [(73, (.bref 6 4))]) ⟨DLe.of_eq (cT hw23).symm, trivial⟩ (VOk.g (VOk.loadB (d := (L 1 eS t5.1.Packages)) rfl Try.underlying37 rfl rfl rfl rfl)))) ?_
    refine OpsOk.consI rfl rfl rfl (.one rfl) rfl (fun hw23 => (GOk.fr (fr' := [(74, (L 1 eS t5.1.Packages))]) ⟨DLe.of_eq (cT hw23).symm, trivial⟩ (VOk.g (VOk.lenL (e := eS) (xs := t5.1.Packages) rfl Try.underlying37 rfl)))) ?_
    refine OpsOk.consI rfl rfl rfl (.one rfl) rfl (fun hw23 => (GOk.fr (fr' := [(75, (.v (.int .i64 (t5.1.Packages.length : Int))))]) ⟨DLe.of_eq (cT hw23).symm, trivial⟩ (VOk.g (VOk.arith (op := .eql) (k := .i64) (a := (t5.1.Packages.length : Int)) (b := 1) rfl rfl rfl rfl)))) ?_
    refine .cv (VOk.to (VOk.pickI (b := ((((((t1.2 == 0) && (t3.2 == 0)) && ((t3.1.length : Int) == 2)) && ((rd t3.1 0).Inline)) && ((((rd t3.1 0).List_).length : Int) == 1)) && (t5.1.Ref == ([114] : Str)))) (p := ((t5.1.Packages.length : Int) == 1)) (q := false) rfl rfl (fun hp24 => (cT (t_beq hp24))) (fun hp24 => rfl)) (pickAnd ((((((t1.2 == 0) && (t3.2 == 0)) && ((t3.1.length : Int) == 2)) && ((rd t3.1 0).Inline)) && ((((rd t3.1 0).List_).length : Int) == 1)) && (t5.1.Ref == ([114] : Str))) ((t5.1.Packages.length : Int) == 1))) rfl rfl ?_
    refine .cv (VOk.mv (d := (.v (.bool (((((((t1.2 == 0) && (t3.2 == 0)) && ((t3.1.length : Int) == 2)) && ((rd t3.1 0).Inline)) && ((((rd t3.1 0).List_).length : Int) == 1)) && (t5.1.Ref == ([114] : Str))) && ((t5.1.Packages.length : Int) == 1))))) rfl rfl) rfl rfl ?_
    refine OpsOk.consI rfl rfl rfl (.one rfl) rfl (fun hw25 => (VOk.g (VOk.mv (d := (.v (.bool t5.2))) rfl rfl))) ?_
    refine .cv (VOk.to (VOk.pickI (b := (((((((t1.2 == 0) && (t3.2 == 0)) && ((t3.1.length : Int) == 2)) && ((rd t3.1 0).Inline)) && ((((rd t3.1 0).List_).length : Int) == 1)) && (t5.1.Ref == ([114] : Str))) && ((t5.1.Packages.length : Int) == 1))) (p := t5.2) (q := false) rfl rfl (fun hp26 => (cT (t_beq hp26))) (fun hp26 => rfl)) (pickAnd (((((((t1.2 == 0) && (t3.2 == 0)) && ((t3.1.length : Int) == 2)) && ((rd t3.1 0).Inline)) && ((((rd t3.1 0).List_).length : Int) == 1)) && (t5.1.Ref == ([114] : Str))) && ((t5.1.Packages.length : Int) == 1)) t5.2)) rfl rfl ?_
    refine .cv (VOk.mv (d := (.v (.bool ((((((((t1.2 == 0) && (t3.2 == 0)) && ((t3.1.length : Int) == 2)) && ((rd t3.1 0).Inline)) && ((((rd t3.1 0).List_).length : Int) == 1)) && (t5.1.Ref == ([114] : Str))) && ((t5.1.Packages.length : Int) == 1)) && t5.2)))) rfl rfl) rfl rfl ?_
    refine OpsOk.consI rfl rfl rfl (.one rfl) rfl (fun hw27 => (VOk.g (VOk.mv (d := (.v (.int .i64 t9.2))) rfl rfl))) ?_
    refine OpsOk.consI rfl rfl rfl (.one rfl) rfl (fun hw27 => (GOk.fr (fr' := [(82, (.v (.int .i64 t9.2)))]) ⟨DLe.of_eq (cT hw27).symm, trivial⟩ (VOk.g (VOk.arith (op := .eql) (k := .i64) (a := t9.2) (b := 41) rfl rfl rfl rfl)))) ?_
    refine .cv (VOk.to (VOk.pickI (b := ((((((((t1.2 == 0) && (t3.2 == 0)) && ((t3.1.length : Int) == 2)) && ((rd t3.1 0).Inline)) && ((((rd t3.1 0).List_).length : Int) == 1)) && (t5.1.Ref == ([114] : Str))) && ((t5.1.Packages.length : Int) == 1)) && t5.2)) (p := (t9.2 == 41)) (q := false) rfl rfl (fun hp28 => (cT (t_beq hp28))) (fun hp28 => rfl)) (pickAnd ((((((((t1.2 == 0) && (t3.2 == 0)) && ((t3.1.length : Int) == 2)) && ((rd t3.1 0).Inline)) && ((((rd t3.1 0).List_).length : Int) == 1)) && (t5.1.Ref == ([114] : Str))) && ((t5.1.Packages.length : Int) == 1)) && t5.2) (t9.2 == 41))) rfl rfl ?_
    refine .cv (VOk.mv (d := (.v (.bool (((((((((t1.2 == 0) && (t3.2 == 0)) && ((t3.1.length : Int) == 2)) && ((rd t3.1 0).Inline)) && ((((rd t3.1 0).List_).length : Int) == 1)) && (t5.1.Ref == ([114] : Str))) && ((t5.1.Packages.length : Int) == 1)) && t5.2) && (t9.2 == 41))))) rfl rfl) rfl rfl ?_
    refine OpsOk.consI rfl rfl rfl (.one rfl) rfl (fun hw29 => (VOk.g (VOk.to (d' := (.agg (e_api_Node (T_api_Node.mk 0 (T_api_Name.mk ([] : Str) ([] : Str)) ([] : List T_api_Attr) ([] : List T_api_Node) ([] : Str))))) (.build [none, none, none, some 3, some 6, none] [(0, 1), (1, 2), (3, 1), (4, 1), (5, 1)] rfl Try.underlying27 (fa27 Try.underlying27) zo27 rfl rfl) (congrArg D.agg (e_api_Node_c (T_api_Node.mk 0 (T_api_Name.mk ([] : Str) ([] : Str)) ([] : List T_api_Attr) ([] : List T_api_Node) ([] : Str))).symm)))) ?_
    refine OpsOk.consI rfl rfl rfl (.one rfl) rfl (fun hw29 => (GOk.fr (fr' := [(86, (.agg (e_api_Node (T_api_Node.mk 0 (T_api_Name.mk ([] : Str) ([] : Str)) ([] : List T_api_Attr) ([] : List T_api_Node) ([] : Str)))))]) ⟨DLe.of_eq (cT hw29).symm, trivial⟩ (GOk.call rfl rfl cl15 rfl (services_Check.ok (ifT h31 hw29)) rfl))) ?_
    refine OpsOk.consI rfl rfl rfl (.one rfl) rfl (fun hw29 => (GOk.fr (fr' := [(87, (.v (.int .i64 t30)))]) ⟨DLe.of_eq (cT hw29).symm, trivial⟩ (VOk.g (VOk.arith (op := .eql) (k := .i64) (a := t30) (b := 40) rfl rfl rfl rfl)))) ?_
    refine .cv (VOk.to (VOk.pickI (b := (((((((((t1.2 == 0) && (t3.2 == 0)) && ((t3.1.length : Int) == 2)) && ((rd t3.1 0).Inline)) && ((((rd t3.1 0).List_).length : Int) == 1)) && (t5.1.Ref == ([114] : Str))) && ((t5.1.Packages.length : Int) == 1)) && t5.2) && (t9.2 == 41))) (p := (t30 == 40)) (q := false) rfl rfl (fun hp32 => (cT (t_beq hp32))) (fun hp32 => rfl)) (pickAnd (((((((((t1.2 == 0) && (t3.2 == 0)) && ((t3.1.length : Int) == 2)) && ((rd t3.1 0).Inline)) && ((((rd t3.1 0).List_).length : Int) == 1)) && (t5.1.Ref == ([114] : Str))) && ((t5.1.Packages.length : Int) == 1)) && t5.2) && (t9.2 == 41)) (t30 == 40))) rfl rfl ?_
    refine .cv (VOk.asg (d := (.v (.bool ((((((((((t1.2 == 0) && (t3.2 == 0)) && ((t3.1.length : Int) == 2)) && ((rd t3.1 0).Inline)) && ((((rd t3.1 0).List_).length : Int) == 1)) && (t5.1.Ref == ([114] : Str))) && ((t5.1.Packages.length : Int) == 1)) && t5.2) && (t9.2 == 41)) && (t30 == 40))))) rfl rfl) rfl rfl ?_
    exact .done (.rf rfl rfl)
  refine Ok.ret ?_
  obtain rfl := Option.some.inj H
  exact ⟨.inl rfl, ⟨_, (.cons (.tmp rfl) .nil), rfl⟩, trivial⟩

/-! watchbill/watchbilllaw04.weigh: function 23 -/
def watchbilllaw04_weigh.l1 (k : Nat) (self : T_api_Node → Int → Option Int) (a1 : Int) : Nat → Int → Str → Str → List T_api_Attr → List T_api_Node → Str → Int → Int → Option Int
  | 0, _, _, _, _, _, _, _, _ => none
  | m39 + 1, y2_0_25, y2_1_26, y2_2_27, y2_3_28, y2_4_29, y2_5_30, x5_23, x7_24 => (if ((decide (x7_24 < (y2_4_29.length : Int))) && (decide (x5_23 ≤ a1))) = true then (if (0 : Int) ≤ x7_24 ∧ x7_24 < (y2_4_29.length : Int) then ((self (rd y2_4_29 x7_24) (IntKind.i64.wrap (a1 - x5_23))).bind fun (t43 : Int) => watchbilllaw04_weigh.l1 k self a1 m39 y2_0_25 y2_1_26 y2_2_27 y2_3_28 y2_4_29 y2_5_30 (IntKind.i64.wrap (x5_23 + t43)) (IntKind.i64.wrap (x7_24 + 1))) else none) else some x5_23)
def watchbilllaw04_weigh.l0 (k : Nat) (self : T_api_Node → Int → Option Int) (a1 : Int) : Nat → Int → Str → Str → List T_api_Attr → List T_api_Node → Str → Int → Int → Option Int
  | 0, _, _, _, _, _, _, _, _ => none
  | m17 + 1, y2_0_3, y2_1_4, y2_2_5, y2_3_6, y2_4_7, y2_5_8, x5_1, x6_2 => (if ((decide (x6_2 < (y2_3_6.length : Int))) && (decide (x5_1 ≤ a1))) = true then (if (0 : Int) ≤ x6_2 ∧ x6_2 < (y2_3_6.length : Int) then (if (0 : Int) ≤ x6_2 ∧ x6_2 < (y2_3_6.length : Int) then (if (0 : Int) ≤ x6_2 ∧ x6_2 < (y2_3_6.length : Int) then watchbilllaw04_weigh.l0 k self a1 m17 y2_0_3 y2_1_4 y2_2_5 y2_3_6 y2_4_7 y2_5_8 (IntKind.i64.wrap ((IntKind.i64.wrap ((IntKind.i64.wrap (x5_1 + (if a1 < ((((rd y2_3_6 x6_2).Name).Space).length : Int) then a1 else ((((rd y2_3_6 x6_2).Name).Space).length : Int)))) + (if a1 < ((((rd y2_3_6 x6_2).Name).Local).length : Int) then a1 else ((((rd y2_3_6 x6_2).Name).Local).length : Int)))) + (if a1 < (((rd y2_3_6 x6_2).Value).length : Int) then a1 else (((rd y2_3_6 x6_2).Value).length : Int)))) (IntKind.i64.wrap (x6_2 + 1)) else none) else none) else none) else watchbilllaw04_weigh.l1 k self a1 k y2_0_3 y2_1_4 y2_2_5 y2_3_6 y2_4_7 y2_5_8 x5_1 0)
def watchbilllaw04_weigh : Nat → T_api_Node → Int → Option Int
  | 0, _, _ => none
  | k + 1, a0, a1 => watchbilllaw04_weigh.l0 k (watchbilllaw04_weigh k) a1 k a0.Kind a0.Name.Space a0.Name.Local a0.Attrs a0.Kids a0.Text (IntKind.i64.wrap ((IntKind.i64.wrap ((IntKind.i64.wrap ((IntKind.i64.wrap (1 + (if a1 < (a0.Text.length : Int) then a1 else (a0.Text.length : Int)))) + (if a1 < (a0.Name.Space.length : Int) then a1 else (a0.Name.Space.length : Int)))) + (if a1 < (a0.Name.Local.length : Int) then a1 else (a0.Name.Local.length : Int)))) + (if a1 < (a0.Attrs.length : Int) then a1 else (a0.Attrs.length : Int)))) 0
theorem watchbilllaw04_weigh.ok {k : Nat} {a0 : T_api_Node} {a1 : Int} {r : Int} (H : watchbilllaw04_weigh k a0 a1 = some r) : Vx.Fn Try.prog 23 [(.agg (e_api_Node a0)), (.v (.int .i64 a1))] [] (.v (.int .i64 r)) [] := by
  induction k generalizing a0 a1 r with
  | zero => exact absurd H (by simp [watchbilllaw04_weigh])
  | succ k ih =>
    unfold watchbilllaw04_weigh at H
    refine Vx.Fn.of_okR Try.func23 rfl (Nat.le_of_ble_eq_true rfl) ?_
    refine Ok.seq ?_
    refine Ok.region (σ' := ⟨[(1, (.v (.int .i64 a1))), (2, (.bref 2 0))], [(2, (.box .ex (c_api_Node a0)))]⟩) ?_ ?_
    · refine OpsOk.cut1 0 (.agg [(.v (.int .i64 a0.Kind)), (S a0.Name.Space), (S a0.Name.Local), (L 3 e_api_Attr a0.Attrs), (L 6 e_api_Node a0.Kids), (S a0.Text)]) (DLe.of_eq (congrArg D.agg (e_api_Node_c _).symm)) ?_
      refine OpsOk.cons rfl (OpOk.box 2 (cells := [(.v (.int .i64 a0.Kind)), (S a0.Name.Space), (S a0.Name.Local), (L 3 e_api_Attr a0.Attrs), (L 6 e_api_Node a0.Kids), (S a0.Text)]) rfl rfl rfl rfl) ?_
      refine .cv (VOk.asg (d := (.v (.int .i64 0))) rfl rfl) rfl rfl ?_
      exact .done (.rf rfl rfl)
    refine Ok.seq ?_
    refine Ok.region (σ' := ⟨[(1, (.v (.int .i64 a1))), (2, (.bref 2 0)), (5, (.v (.int .i64 (IntKind.i64.wrap ((IntKind.i64.wrap ((IntKind.i64.wrap ((IntKind.i64.wrap (1 + (if a1 < (a0.Text.length : Int) then a1 else (a0.Text.length : Int)))) + (if a1 < (a0.Name.Space.length : Int) then a1 else (a0.Name.Space.length : Int)))) + (if a1 < (a0.Name.Local.length : Int) then a1 else (a0.Name.Local.length : Int)))) + (if a1 < (a0.Attrs.length : Int) then a1 else (a0.Attrs.length : Int)))))))], [(2, (.box .ex (c_api_Node a0)))]⟩) ?_ ?_
    · refine .cv (VOk.to (VOk.fieldB rfl Try.underlying27 rfl sz9 rfl rfl) rfl) rfl rfl ?_
      refine .cv (VOk.loadB (d := (S a0.Text)) rfl Try.underlying9 rfl rfl rfl rfl) rfl rfl ?_
      refine .cv (VOk.lenStr (s := a0.Text) rfl Try.underlying9 rfl) rfl rfl ?_
      refine .cv (VOk.mv (d := (.v (.int .i64 a1))) rfl rfl) rfl rfl ?_
      refine .cv (VOk.min2 (a := (a0.Text.length : Int)) (b := a1) rfl rfl rfl) rfl rfl ?_
      refine .cv (VOk.arith (op := .add) (k := .i64) (a := 1) (b := (if a1 < (a0.Text.length : Int) then a1 else (a0.Text.length : Int))) rfl rfl rfl rfl) rfl rfl ?_
      refine .cv (VOk.to (VOk.fieldB rfl Try.underlying27 rfl sz23 rfl rfl) rfl) rfl rfl ?_
      refine .cv (VOk.to (VOk.fieldB rfl Try.underlying23 rfl sz9 rfl rfl) rfl) rfl rfl ?_
      refine .cv (VOk.loadB (d := (S a0.Name.Space)) rfl Try.underlying9 rfl rfl rfl rfl) rfl rfl ?_
      refine .cv (VOk.lenStr (s := a0.Name.Space) rfl Try.underlying9 rfl) rfl rfl ?_
      refine .cv (VOk.mv (d := (.v (.int .i64 a1))) rfl rfl) rfl rfl ?_
      refine .cv (VOk.min2 (a := (a0.Name.Space.length : Int)) (b := a1) rfl rfl rfl) rfl rfl ?_
      refine .cv (VOk.arith (op := .add) (k := .i64) (a := (IntKind.i64.wrap (1 + (if a1 < (a0.Text.length : Int) then a1 else (a0.Text.length : Int))))) (b := (if a1 < (a0.Name.Space.length : Int) then a1 else (a0.Name.Space.length : Int))) rfl rfl rfl rfl) rfl rfl ?_
      refine .cv (VOk.to (VOk.fieldB rfl Try.underlying27 rfl sz23 rfl rfl) rfl) rfl rfl ?_
      refine .cv (VOk.to (VOk.fieldB rfl Try.underlying23 rfl sz9 rfl rfl) rfl) rfl rfl ?_
      refine .cv (VOk.loadB (d := (S a0.Name.Local)) rfl Try.underlying9 rfl rfl rfl rfl) rfl rfl ?_
      refine .cv (VOk.lenStr (s := a0.Name.Local) rfl Try.underlying9 rfl) rfl rfl ?_
      refine .cv (VOk.mv (d := (.v (.int .i64 a1))) rfl rfl) rfl rfl ?_
      refine .cv (VOk.min2 (a := (a0.Name.Local.length : Int)) (b := a1) rfl rfl rfl) rfl rfl ?_
      refine .cv (VOk.arith (op := .add) (k := .i64) (a := (IntKind.i64.wrap ((IntKind.i64.wrap (1 + (if a1 < (a0.Text.length : Int) then a1 else (a0.Text.length : Int)))) + (if a1 < (a0.Name.Space.length : Int) then a1 else (a0.Name.Space.length : Int))))) (b := (if a1 < (a0.Name.Local.length : Int) then a1 else (a0.Name.Local.length : Int))) rfl rfl rfl rfl) rfl rfl ?_
      refine .cv (VOk.to (VOk.fieldB rfl Try.underlying27 rfl sz24 rfl rfl) rfl) rfl rfl ?_
      refine .cv (VOk.loadB (d := (L 3 e_api_Attr a0.Attrs)) rfl Try.underlying24 rfl rfl rfl rfl) rfl rfl ?_
      refine .cv (VOk.lenL (e := e_api_Attr) (xs := a0.Attrs) rfl Try.underlying24 rfl) rfl rfl ?_
      refine .cv (VOk.mv (d := (.v (.int .i64 a1))) rfl rfl) rfl rfl ?_
      refine .cv (VOk.min2 (a := (a0.Attrs.length : Int)) (b := a1) rfl rfl rfl) rfl rfl ?_
      refine .cv (VOk.arith (op := .add) (k := .i64) (a := (IntKind.i64.wrap ((IntKind.i64.wrap ((IntKind.i64.wrap (1 + (if a1 < (a0.Text.length : Int) then a1 else (a0.Text.length : Int)))) + (if a1 < (a0.Name.Space.length : Int) then a1 else (a0.Name.Space.length : Int)))) + (if a1 < (a0.Name.Local.length : Int) then a1 else (a0.Name.Local.length : Int))))) (b := (if a1 < (a0.Attrs.length : Int) then a1 else (a0.Attrs.length : Int))) rfl rfl rfl rfl) rfl rfl ?_
      refine .cv (VOk.asg (d := (.v (.int .i64 (IntKind.i64.wrap ((IntKind.i64.wrap ((IntKind.i64.wrap ((IntKind.i64.wrap (1 + (if a1 < (a0.Text.length : Int) then a1 else (a0.Text.length : Int)))) + (if a1 < (a0.Name.Space.length : Int) then a1 else (a0.Name.Space.length : Int)))) + (if a1 < (a0.Name.Local.length : Int) then a1 else (a0.Name.Local.length : Int)))) + (if a1 < (a0.Attrs.length : Int) then a1 else (a0.Attrs.length : Int))))))) rfl rfl) rfl rfl ?_
      exact .done (.rf rfl rfl)
    refine Ok.seq ?_
    refine Ok.seq ?_
    refine Ok.region (σ' := ⟨[(1, (.v (.int .i64 a1))), (2, (.bref 2 0)), (5, (.v (.int .i64 (IntKind.i64.wrap ((IntKind.i64.wrap ((IntKind.i64.wrap ((IntKind.i64.wrap (1 + (if a1 < (a0.Text.length : Int) then a1 else (a0.Text.length : Int)))) + (if a1 < (a0.Name.Space.length : Int) then a1 else (a0.Name.Space.length : Int)))) + (if a1 < (a0.Name.Local.length : Int) then a1 else (a0.Name.Local.length : Int)))) + (if a1 < (a0.Attrs.length : Int) then a1 else (a0.Attrs.length : Int))))))), (6, (.v (.int .i64 0)))], [(2, (.box .ex (c_api_Node a0)))]⟩) ?_ ?_
    · refine .cv (VOk.asg (d := (.v (.int .i64 0))) rfl rfl) rfl rfl ?_
      exact .done (.rf rfl rfl)
    refine Ok.block ?_
    refine Ok.le (σ' := ⟨[(1, (.v (.int .i64 a1))), (2, (.bref 2 0)), (5, (.v (.int .i64 (IntKind.i64.wrap ((IntKind.i64.wrap ((IntKind.i64.wrap ((IntKind.i64.wrap (1 + (if a1 < (a0.Text.length : Int) then a1 else (a0.Text.length : Int)))) + (if a1 < (a0.Name.Space.length : Int) then a1 else (a0.Name.Space.length : Int)))) + (if a1 < (a0.Name.Local.length : Int) then a1 else (a0.Name.Local.length : Int)))) + (if a1 < (a0.Attrs.length : Int) then a1 else (a0.Attrs.length : Int))))))), (6, (.v (.int .i64 0)))], [(2, (.box .ex (c_api_Node a0)))]⟩) (.rf rfl rfl) ?_
    refine Ok.loop (fun m17 σ => ∃ (y2_0_3 : Int) (y2_1_4 : Str) (y2_2_5 : Str) (y2_3_6 : List T_api_Attr) (y2_4_7 : List T_api_Node) (y2_5_8 : Str) (x5_1 : Int) (x6_2 : Int), σ = ⟨[(1, (.v (.int .i64 a1))), (2, (.bref 2 0)), (5, (.v (.int .i64 x5_1))), (6, (.v (.int .i64 x6_2)))], [(2, (.box .ex [(.v (.int .i64 y2_0_3)), (S y2_1_4), (S y2_2_5), (L 3 e_api_Attr y2_3_6), (L 6 e_api_Node y2_4_7), (S y2_5_8)]))]⟩ ∧ watchbilllaw04_weigh.l0 k (watchbilllaw04_weigh k) a1 m17 y2_0_3 y2_1_4 y2_2_5 y2_3_6 y2_4_7 y2_5_8 x5_1 x6_2 = some r) k ⟨a0.Kind, a0.Name.Space, a0.Name.Local, a0.Attrs, a0.Kids, a0.Text, (IntKind.i64.wrap ((IntKind.i64.wrap ((IntKind.i64.wrap ((IntKind.i64.wrap (1 + (if a1 < (a0.Text.length : Int) then a1 else (a0.Text.length : Int)))) + (if a1 < (a0.Name.Space.length : Int) then a1 else (a0.Name.Space.length : Int)))) + (if a1 < (a0.Name.Local.length : Int) then a1 else (a0.Name.Local.length : Int)))) + (if a1 < (a0.Attrs.length : Int) then a1 else (a0.Attrs.length : Int)))), 0, rfl, H⟩ ?_
    rintro m17 σ ⟨y2_0_3, y2_1_4, y2_2_5, y2_3_6, y2_4_7, y2_5_8, x5_1, x6_2, rfl, H⟩
    cases m17 with
    | zero => exact absurd H (by simp [watchbilllaw04_weigh.l0])
    | succ m17 =>
      unfold watchbilllaw04_weigh.l0 at H
      refine Ok.seq ?_
      refine Ok.seq ?_
      refine Ok.region (σ' := ⟨[(1, (.v (.int .i64 a1))), (2, (.bref 2 0)), (5, (.v (.int .i64 x5_1))), (6, (.v (.int .i64 x6_2))), (43, (.v (.bool ((decide (x6_2 < (y2_3_6.length : Int))) && (decide (x5_1 ≤ a1))))))], [(2, (.box .ex [(.v (.int .i64 y2_0_3)), (S y2_1_4), (S y2_2_5), (L 3 e_api_Attr y2_3_6), (L 6 e_api_Node y2_4_7), (S y2_5_8)]))]⟩) ?_ ?_
      · refine .cv (VOk.mv (d := (.v (.int .i64 x6_2))) rfl rfl) rfl rfl ?_
        refine .cv (VOk.to (VOk.fieldB rfl Try.underlying27 rfl sz24 rfl rfl) rfl) rfl rfl ?_
        refine .cv (VOk.loadB (d := (L 3 e_api_Attr y2_3_6)) rfl Try.underlying24 rfl rfl rfl rfl) rfl rfl ?_
        refine .cv (VOk.lenL (e := e_api_Attr) (xs := y2_3_6) rfl Try.underlying24 rfl) rfl rfl ?_
        refine .cv (VOk.arith (op := .lss) (k := .i64) (a := x6_2) (b := (y2_3_6.length : Int)) rfl rfl rfl rfl) rfl rfl ?_
        refine .cv (VOk.mv (d := (.v (.bool (decide (x6_2 < (y2_3_6.length : Int)))))) rfl rfl) rfl rfl ?_
        refine OpsOk.consI rfl rfl rfl (.one rfl) rfl (fun hw18 => (VOk.g (VOk.mv (d := (.v (.int .i64 x5_1))) rfl rfl))) ?_
        refine OpsOk.consI rfl rfl rfl (.one rfl) rfl (fun hw18 => (VOk.g (VOk.mv (d := (.v (.int .i64 a1))) rfl rfl))) ?_
        refine OpsOk.consI rfl rfl rfl (.one rfl) rfl (fun hw18 => (GOk.fr (fr' := [(40, (.v (.int .i64 x5_1))), (41, (.v (.int .i64 a1)))]) ⟨DLe.of_eq (cT hw18).symm, DLe.of_eq (cT hw18).symm, trivial⟩ (VOk.g (VOk.arith (op := .leq) (k := .i64) (a := x5_1) (b := a1) rfl rfl rfl rfl)))) ?_
        refine .cv (VOk.to (VOk.pickI (b := (decide (x6_2 < (y2_3_6.length : Int)))) (p := (decide (x5_1 ≤ a1))) (q := false) rfl rfl (fun hp19 => (cT (t_beq hp19))) (fun hp19 => rfl)) (pickAnd (decide (x6_2 < (y2_3_6.length : Int))) (decide (x5_1 ≤ a1)))) rfl rfl ?_
        exact .done (.rf rfl rfl)
      refine Ok.test (b := ((decide (x6_2 < (y2_3_6.length : Int))) && (decide (x5_1 ≤ a1)))) rfl (fun hb46 => ?_) (fun hb46 => ?_)
      · replace H := ifT H hb46
        refine Ok.skip ?_
        refine Ok.seq ?_
        refine Ok.block ?_
        obtain ⟨c20, H⟩ := assertE H
        obtain ⟨c21, H⟩ := assertE H
        obtain ⟨c22, H⟩ := assertE H
        refine Ok.drawE (σ' := ⟨[(1, (.v (.int .i64 a1))), (2, (.bref 2 0)), (5, (.v (.int .i64 (IntKind.i64.wrap ((IntKind.i64.wrap ((IntKind.i64.wrap (x5_1 + (if a1 < ((((rd y2_3_6 x6_2).Name).Space).length : Int) then a1 else ((((rd y2_3_6 x6_2).Name).Space).length : Int)))) + (if a1 < ((((rd y2_3_6 x6_2).Name).Local).length : Int) then a1 else ((((rd y2_3_6 x6_2).Name).Local).length : Int)))) + (if a1 < (((rd y2_3_6 x6_2).Value).length : Int) then a1 else (((rd y2_3_6 x6_2).Value).length : Int))))))), (6, (.v (.int .i64 x6_2)))], [(2, (.box .ex [(.v (.int .i64 y2_0_3)), (S y2_1_4), (S y2_2_5), (L 3 e_api_Attr y2_3_6), (L 6 e_api_Node y2_4_7), (S y2_5_8)]))]⟩) [⟨true, [(5, (.v (.int .i64 x5_1)))], (.v (.int .i64 x5_1))⟩, ⟨true, [(2, (.bref 2 0))], (.bref 2 3)⟩, ⟨true, [(47, (.bref 2 3))], (L 3 e_api_Attr y2_3_6)⟩, ⟨true, [(6, (.v (.int .i64 x6_2)))], (.v (.int .i64 x6_2))⟩, ⟨true, [(48, (L 3 e_api_Attr y2_3_6)), (49, (.v (.int .i64 x6_2)))], (.fp (e_api_Attr (rd y2_3_6 x6_2)) 0)⟩, ⟨true, [(50, (.fp (e_api_Attr (rd y2_3_6 x6_2)) 0))], (.fp (e_api_Attr (rd y2_3_6 x6_2)) 0)⟩, ⟨true, [(51, (.fp (e_api_Attr (rd y2_3_6 x6_2)) 0))], (.fp (e_api_Attr (rd y2_3_6 x6_2)) 0)⟩, ⟨true, [(52, (.fp (e_api_Attr (rd y2_3_6 x6_2)) 0))], (S (((rd y2_3_6 x6_2).Name).Space))⟩, ⟨true, [(53, (S (((rd y2_3_6 x6_2).Name).Space)))], (.v (.int .i64 ((((rd y2_3_6 x6_2).Name).Space).length : Int)))⟩, ⟨true, [(1, (.v (.int .i64 a1)))], (.v (.int .i64 a1))⟩, ⟨true, [(54, (.v (.int .i64 ((((rd y2_3_6 x6_2).Name).Space).length : Int)))), (55, (.v (.int .i64 a1)))], (.v (.int .i64 (if a1 < ((((rd y2_3_6 x6_2).Name).Space).length : Int) then a1 else ((((rd y2_3_6 x6_2).Name).Space).length : Int))))⟩, ⟨true, [(46, (.v (.int .i64 x5_1))), (56, (.v (.int .i64 (if a1 < ((((rd y2_3_6 x6_2).Name).Space).length : Int) then a1 else ((((rd y2_3_6 x6_2).Name).Space).length : Int)))))], (.v (.int .i64 (IntKind.i64.wrap (x5_1 + (if a1 < ((((rd y2_3_6 x6_2).Name).Space).length : Int) then a1 else ((((rd y2_3_6 x6_2).Name).Space).length : Int))))))⟩, ⟨true, [(2, (.bref 2 0))], (.bref 2 3)⟩, ⟨true, [(58, (.bref 2 3))], (L 3 e_api_Attr y2_3_6)⟩, ⟨true, [(6, (.v (.int .i64 x6_2)))], (.v (.int .i64 x6_2))⟩, ⟨true, [(59, (L 3 e_api_Attr y2_3_6)), (60, (.v (.int .i64 x6_2)))], (.fp (e_api_Attr (rd y2_3_6 x6_2)) 0)⟩, ⟨true, [(61, (.fp (e_api_Attr (rd y2_3_6 x6_2)) 0))], (.fp (e_api_Attr (rd y2_3_6 x6_2)) 0)⟩, ⟨true, [(62, (.fp (e_api_Attr (rd y2_3_6 x6_2)) 0))], (.fp (e_api_Attr (rd y2_3_6 x6_2)) 1)⟩, ⟨true, [(63, (.fp (e_api_Attr (rd y2_3_6 x6_2)) 1))], (S (((rd y2_3_6 x6_2).Name).Local))⟩, ⟨true, [(64, (S (((rd y2_3_6 x6_2).Name).Local)))], (.v (.int .i64 ((((rd y2_3_6 x6_2).Name).Local).length : Int)))⟩, ⟨true, [(1, (.v (.int .i64 a1)))], (.v (.int .i64 a1))⟩, ⟨true, [(65, (.v (.int .i64 ((((rd y2_3_6 x6_2).Name).Local).length : Int)))), (66, (.v (.int .i64 a1)))], (.v (.int .i64 (if a1 < ((((rd y2_3_6 x6_2).Name).Local).length : Int) then a1 else ((((rd y2_3_6 x6_2).Name).Local).length : Int))))⟩, ⟨true, [(57, (.v (.int .i64 (IntKind.i64.wrap (x5_1 + (if a1 < ((((rd y2_3_6 x6_2).Name).Space).length : Int) then a1 else ((((rd y2_3_6 x6_2).Name).Space).length : Int))))))), (67, (.v (.int .i64 (if a1 < ((((rd y2_3_6 x6_2).Name).Local).length : Int) then a1 else ((((rd y2_3_6 x6_2).Name).Local).length : Int)))))], (.v (.int .i64 (IntKind.i64.wrap ((IntKind.i64.wrap (x5_1 + (if a1 < ((((rd y2_3_6 x6_2).Name).Space).length : Int) then a1 else ((((rd y2_3_6 x6_2).Name).Space).length : Int)))) + (if a1 < ((((rd y2_3_6 x6_2).Name).Local).length : Int) then a1 else ((((rd y2_3_6 x6_2).Name).Local).length : Int))))))⟩, ⟨true, [(2, (.bref 2 0))], (.bref 2 3)⟩, ⟨true, [(69, (.bref 2 3))], (L 3 e_api_Attr y2_3_6)⟩, ⟨true, [(6, (.v (.int .i64 x6_2)))], (.v (.int .i64 x6_2))⟩, ⟨true, [(70, (L 3 e_api_Attr y2_3_6)), (71, (.v (.int .i64 x6_2)))], (.fp (e_api_Attr (rd y2_3_6 x6_2)) 0)⟩, ⟨true, [(72, (.fp (e_api_Attr (rd y2_3_6 x6_2)) 0))], (.fp (e_api_Attr (rd y2_3_6 x6_2)) 2)⟩, ⟨true, [(73, (.fp (e_api_Attr (rd y2_3_6 x6_2)) 2))], (S ((rd y2_3_6 x6_2).Value))⟩, ⟨true, [(74, (S ((rd y2_3_6 x6_2).Value)))], (.v (.int .i64 (((rd y2_3_6 x6_2).Value).length : Int)))⟩, ⟨true, [(1, (.v (.int .i64 a1)))], (.v (.int .i64 a1))⟩, ⟨true, [(75, (.v (.int .i64 (((rd y2_3_6 x6_2).Value).length : Int)))), (76, (.v (.int .i64 a1)))], (.v (.int .i64 (if a1 < (((rd y2_3_6 x6_2).Value).length : Int) then a1 else (((rd y2_3_6 x6_2).Value).length : Int))))⟩, ⟨true, [(68, (.v (.int .i64 (IntKind.i64.wrap ((IntKind.i64.wrap (x5_1 + (if a1 < ((((rd y2_3_6 x6_2).Name).Space).length : Int) then a1 else ((((rd y2_3_6 x6_2).Name).Space).length : Int)))) + (if a1 < ((((rd y2_3_6 x6_2).Name).Local).length : Int) then a1 else ((((rd y2_3_6 x6_2).Name).Local).length : Int))))))), (77, (.v (.int .i64 (if a1 < (((rd y2_3_6 x6_2).Value).length : Int) then a1 else (((rd y2_3_6 x6_2).Value).length : Int)))))], (.v (.int .i64 (IntKind.i64.wrap ((IntKind.i64.wrap ((IntKind.i64.wrap (x5_1 + (if a1 < ((((rd y2_3_6 x6_2).Name).Space).length : Int) then a1 else ((((rd y2_3_6 x6_2).Name).Space).length : Int)))) + (if a1 < ((((rd y2_3_6 x6_2).Name).Local).length : Int) then a1 else ((((rd y2_3_6 x6_2).Name).Local).length : Int)))) + (if a1 < (((rd y2_3_6 x6_2).Value).length : Int) then a1 else (((rd y2_3_6 x6_2).Value).length : Int))))))⟩, ⟨true, [(78, (.v (.int .i64 (IntKind.i64.wrap ((IntKind.i64.wrap ((IntKind.i64.wrap (x5_1 + (if a1 < ((((rd y2_3_6 x6_2).Name).Space).length : Int) then a1 else ((((rd y2_3_6 x6_2).Name).Space).length : Int)))) + (if a1 < ((((rd y2_3_6 x6_2).Name).Local).length : Int) then a1 else ((((rd y2_3_6 x6_2).Name).Local).length : Int)))) + (if a1 < (((rd y2_3_6 x6_2).Value).length : Int) then a1 else (((rd y2_3_6 x6_2).Value).length : Int)))))))], (.v (.int .i64 (IntKind.i64.wrap ((IntKind.i64.wrap ((IntKind.i64.wrap (x5_1 + (if a1 < ((((rd y2_3_6 x6_2).Name).Space).length : Int) then a1 else ((((rd y2_3_6 x6_2).Name).Space).length : Int)))) + (if a1 < ((((rd y2_3_6 x6_2).Name).Local).length : Int) then a1 else ((((rd y2_3_6 x6_2).Name).Local).length : Int)))) + (if a1 < (((rd y2_3_6 x6_2).Value).length : Int) then a1 else (((rd y2_3_6 x6_2).Value).length : Int))))))⟩] [[], [], [1], [], [2, 3], [4], [5], [6], [7], [], [8, 9], [0, 10], [], [12], [], [13, 14], [15], [16], [17], [18], [], [19, 20], [11, 21], [], [23], [], [24, 25], [26], [27], [28], [], [29, 30], [22, 31], [0, 32]] mixed (by kernel_rfl) ?_ ?_
        · refine TxtE.cons rfl ⟨.same _, trivial⟩ rfl (VOk.g (VOk.mv (d := (.v (.int .i64 x5_1))) rfl rfl)) ?_
          refine TxtE.cons rfl ⟨.same _, trivial⟩ rfl (VOk.g (VOk.to (VOk.fieldB rfl Try.underlying27 rfl sz24 rfl rfl) rfl)) ?_
          refine TxtE.cons rfl ⟨.same _, trivial⟩ rfl (VOk.g (VOk.loadB (d := (L 3 e_api_Attr y2_3_6)) rfl Try.underlying24 rfl rfl rfl rfl)) ?_
          refine TxtE.cons rfl ⟨.same _, trivial⟩ rfl (VOk.g (VOk.mv (d := (.v (.int .i64 x6_2))) rfl rfl)) ?_
          refine TxtE.cons rfl ⟨.same _, .same _, trivial⟩ rfl (VOk.g (VOk.indexL (sz := 3) (e := e_api_Attr) (xs := y2_3_6) (i := x6_2) rfl Try.underlying24 sz75 rfl rfl c20)) ?_
          refine TxtE.cons rfl ⟨.same _, trivial⟩ rfl (VOk.g (VOk.to (VOk.fieldFp rfl Try.underlying75 rfl sz23 rfl) rfl)) ?_
          refine TxtE.cons rfl ⟨.same _, trivial⟩ rfl (VOk.g (VOk.to (VOk.fieldFp rfl Try.underlying23 rfl sz9 rfl) rfl)) ?_
          refine TxtE.cons rfl ⟨.same _, trivial⟩ rfl (VOk.g (VOk.loadFp (d := (S (((rd y2_3_6 x6_2).Name).Space))) rfl Try.underlying9 rfl rfl rfl)) ?_
          refine TxtE.cons rfl ⟨.same _, trivial⟩ rfl (VOk.g (VOk.lenStr (s := ((rd y2_3_6 x6_2).Name).Space) rfl Try.underlying9 rfl)) ?_
          refine TxtE.cons rfl ⟨.same _, trivial⟩ rfl (VOk.g (VOk.mv (d := (.v (.int .i64 a1))) rfl rfl)) ?_
          refine TxtE.cons rfl ⟨.same _, .same _, trivial⟩ rfl (VOk.g (VOk.min2 (a := ((((rd y2_3_6 x6_2).Name).Space).length : Int)) (b := a1) rfl rfl rfl)) ?_
          refine TxtE.cons rfl ⟨.same _, .same _, trivial⟩ rfl (VOk.g (VOk.arith (op := .add) (k := .i64) (a := x5_1) (b := (if a1 < ((((rd y2_3_6 x6_2).Name).Space).length : Int) then a1 else ((((rd y2_3_6 x6_2).Name).Space).length : Int))) rfl rfl rfl rfl)) ?_
          refine TxtE.cons rfl ⟨.same _, trivial⟩ rfl (VOk.g (VOk.to (VOk.fieldB rfl Try.underlying27 rfl sz24 rfl rfl) rfl)) ?_
          refine TxtE.cons rfl ⟨.same _, trivial⟩ rfl (VOk.g (VOk.loadB (d := (L 3 e_api_Attr y2_3_6)) rfl Try.underlying24 rfl rfl rfl rfl)) ?_
          refine TxtE.cons rfl ⟨.same _, trivial⟩ rfl (VOk.g (VOk.mv (d := (.v (.int .i64 x6_2))) rfl rfl)) ?_
          refine TxtE.cons rfl ⟨.same _, .same _, trivial⟩ rfl (VOk.g (VOk.indexL (sz := 3) (e := e_api_Attr) (xs := y2_3_6) (i := x6_2) rfl Try.underlying24 sz75 rfl rfl c21)) ?_
          refine TxtE.cons rfl ⟨.same _, trivial⟩ rfl (VOk.g (VOk.to (VOk.fieldFp rfl Try.underlying75 rfl sz23 rfl) rfl)) ?_
          refine TxtE.cons rfl ⟨.same _, trivial⟩ rfl (VOk.g (VOk.to (VOk.fieldFp rfl Try.underlying23 rfl sz9 rfl) rfl)) ?_
          refine TxtE.cons rfl ⟨.same _, trivial⟩ rfl (VOk.g (VOk.loadFp (d := (S (((rd y2_3_6 x6_2).Name).Local))) rfl Try.underlying9 rfl rfl rfl)) ?_
          refine TxtE.cons rfl ⟨.same _, trivial⟩ rfl (VOk.g (VOk.lenStr (s := ((rd y2_3_6 x6_2).Name).Local) rfl Try.underlying9 rfl)) ?_
          refine TxtE.cons rfl ⟨.same _, trivial⟩ rfl (VOk.g (VOk.mv (d := (.v (.int .i64 a1))) rfl rfl)) ?_
          refine TxtE.cons rfl ⟨.same _, .same _, trivial⟩ rfl (VOk.g (VOk.min2 (a := ((((rd y2_3_6 x6_2).Name).Local).length : Int)) (b := a1) rfl rfl rfl)) ?_
          refine TxtE.cons rfl ⟨.same _, .same _, trivial⟩ rfl (VOk.g (VOk.arith (op := .add) (k := .i64) (a := (IntKind.i64.wrap (x5_1 + (if a1 < ((((rd y2_3_6 x6_2).Name).Space).length : Int) then a1 else ((((rd y2_3_6 x6_2).Name).Space).length : Int))))) (b := (if a1 < ((((rd y2_3_6 x6_2).Name).Local).length : Int) then a1 else ((((rd y2_3_6 x6_2).Name).Local).length : Int))) rfl rfl rfl rfl)) ?_
          refine TxtE.cons rfl ⟨.same _, trivial⟩ rfl (VOk.g (VOk.to (VOk.fieldB rfl Try.underlying27 rfl sz24 rfl rfl) rfl)) ?_
          refine TxtE.cons rfl ⟨.same _, trivial⟩ rfl (VOk.g (VOk.loadB (d := (L 3 e_api_Attr y2_3_6)) rfl Try.underlying24 rfl rfl rfl rfl)) ?_
          refine TxtE.cons rfl ⟨.same _, trivial⟩ rfl (VOk.g (VOk.mv (d := (.v (.int .i64 x6_2))) rfl rfl)) ?_
          refine TxtE.cons rfl ⟨.same _, .same _, trivial⟩ rfl (VOk.g (VOk.indexL (sz := 3) (e := e_api_Attr) (xs := y2_3_6) (i := x6_2) rfl Try.underlying24 sz75 rfl rfl c22)) ?_
          refine TxtE.cons rfl ⟨.same _, trivial⟩ rfl (VOk.g (VOk.to (VOk.fieldFp rfl Try.underlying75 rfl sz9 rfl) rfl)) ?_
          refine TxtE.cons rfl ⟨.same _, trivial⟩ rfl (VOk.g (VOk.loadFp (d := (S ((rd y2_3_6 x6_2).Value))) rfl Try.underlying9 rfl rfl rfl)) ?_
          refine TxtE.cons rfl ⟨.same _, trivial⟩ rfl (VOk.g (VOk.lenStr (s := (rd y2_3_6 x6_2).Value) rfl Try.underlying9 rfl)) ?_
          refine TxtE.cons rfl ⟨.same _, trivial⟩ rfl (VOk.g (VOk.mv (d := (.v (.int .i64 a1))) rfl rfl)) ?_
          refine TxtE.cons rfl ⟨.same _, .same _, trivial⟩ rfl (VOk.g (VOk.min2 (a := (((rd y2_3_6 x6_2).Value).length : Int)) (b := a1) rfl rfl rfl)) ?_
          refine TxtE.cons rfl ⟨.same _, .same _, trivial⟩ rfl (VOk.g (VOk.arith (op := .add) (k := .i64) (a := (IntKind.i64.wrap ((IntKind.i64.wrap (x5_1 + (if a1 < ((((rd y2_3_6 x6_2).Name).Space).length : Int) then a1 else ((((rd y2_3_6 x6_2).Name).Space).length : Int)))) + (if a1 < ((((rd y2_3_6 x6_2).Name).Local).length : Int) then a1 else ((((rd y2_3_6 x6_2).Name).Local).length : Int))))) (b := (if a1 < (((rd y2_3_6 x6_2).Value).length : Int) then a1 else (((rd y2_3_6 x6_2).Value).length : Int))) rfl rfl rfl rfl)) ?_
          refine TxtE.cons rfl ⟨.same _, trivial⟩ rfl (VOk.g (VOk.asg (d := (.v (.int .i64 (IntKind.i64.wrap ((IntKind.i64.wrap ((IntKind.i64.wrap (x5_1 + (if a1 < ((((rd y2_3_6 x6_2).Name).Space).length : Int) then a1 else ((((rd y2_3_6 x6_2).Name).Space).length : Int)))) + (if a1 < ((((rd y2_3_6 x6_2).Name).Local).length : Int) then a1 else ((((rd y2_3_6 x6_2).Name).Local).length : Int)))) + (if a1 < (((rd y2_3_6 x6_2).Value).length : Int) then a1 else (((rd y2_3_6 x6_2).Value).length : Int))))))) rfl rfl)) ?_
          exact .done (.rf rfl rfl)
        refine Ok.region (σ' := ⟨[(1, (.v (.int .i64 a1))), (2, (.bref 2 0)), (5, (.v (.int .i64 (IntKind.i64.wrap ((IntKind.i64.wrap ((IntKind.i64.wrap (x5_1 + (if a1 < ((((rd y2_3_6 x6_2).Name).Space).length : Int) then a1 else ((((rd y2_3_6 x6_2).Name).Space).length : Int)))) + (if a1 < ((((rd y2_3_6 x6_2).Name).Local).length : Int) then a1 else ((((rd y2_3_6 x6_2).Name).Local).length : Int)))) + (if a1 < (((rd y2_3_6 x6_2).Value).length : Int) then a1 else (((rd y2_3_6 x6_2).Value).length : Int))))))), (6, (.v (.int .i64 (IntKind.i64.wrap (x6_2 + 1)))))], [(2, (.box .ex [(.v (.int .i64 y2_0_3)), (S y2_1_4), (S y2_2_5), (L 3 e_api_Attr y2_3_6), (L 6 e_api_Node y2_4_7), (S y2_5_8)]))]⟩) ?_ ?_
        · refine .cv (VOk.mv (d := (.v (.int .i64 x6_2))) rfl rfl) rfl rfl ?_
          refine .cv (VOk.arith (op := .add) (k := .i64) (a := x6_2) (b := 1) rfl rfl rfl rfl) rfl rfl ?_
          refine .cv (VOk.asg (d := (.v (.int .i64 (IntKind.i64.wrap (x6_2 + 1))))) rfl rfl) rfl rfl ?_
          exact .done (.rf rfl rfl)
        exact ⟨m17, Nat.lt_succ_self m17, y2_0_3, y2_1_4, y2_2_5, y2_3_6, y2_4_7, y2_5_8, (IntKind.i64.wrap ((IntKind.i64.wrap ((IntKind.i64.wrap (x5_1 + (if a1 < ((((rd y2_3_6 x6_2).Name).Space).length : Int) then a1 else ((((rd y2_3_6 x6_2).Name).Space).length : Int)))) + (if a1 < ((((rd y2_3_6 x6_2).Name).Local).length : Int) then a1 else ((((rd y2_3_6 x6_2).Name).Local).length : Int)))) + (if a1 < (((rd y2_3_6 x6_2).Value).length : Int) then a1 else (((rd y2_3_6 x6_2).Value).length : Int)))), (IntKind.i64.wrap (x6_2 + 1)), rfl, H⟩
      · replace H := ifF H hb46
        refine Ok.exit ?_
        refine Ok.seq ?_
        refine Ok.seq ?_
        refine Ok.region (σ' := ⟨[(1, (.v (.int .i64 a1))), (2, (.bref 2 0)), (5, (.v (.int .i64 x5_1))), (7, (.v (.int .i64 0)))], [(2, (.box .ex [(.v (.int .i64 y2_0_3)), (S y2_1_4), (S y2_2_5), (L 3 e_api_Attr y2_3_6), (L 6 e_api_Node y2_4_7), (S y2_5_8)]))]⟩) ?_ ?_
        · refine .cv (VOk.asg (d := (.v (.int .i64 0))) rfl rfl) rfl rfl ?_
          exact .done (.rf rfl rfl)
        refine Ok.block ?_
        refine Ok.le (σ' := ⟨[(1, (.v (.int .i64 a1))), (2, (.bref 2 0)), (5, (.v (.int .i64 x5_1))), (7, (.v (.int .i64 0)))], [(2, (.box .ex [(.v (.int .i64 y2_0_3)), (S y2_1_4), (S y2_2_5), (L 3 e_api_Attr y2_3_6), (L 6 e_api_Node y2_4_7), (S y2_5_8)]))]⟩) (.rf rfl rfl) ?_
        refine Ok.loop (fun m39 σ => ∃ (y2_0_25 : Int) (y2_1_26 : Str) (y2_2_27 : Str) (y2_3_28 : List T_api_Attr) (y2_4_29 : List T_api_Node) (y2_5_30 : Str) (x5_23 : Int) (x7_24 : Int), σ = ⟨[(1, (.v (.int .i64 a1))), (2, (.bref 2 0)), (5, (.v (.int .i64 x5_23))), (7, (.v (.int .i64 x7_24)))], [(2, (.box .ex [(.v (.int .i64 y2_0_25)), (S y2_1_26), (S y2_2_27), (L 3 e_api_Attr y2_3_28), (L 6 e_api_Node y2_4_29), (S y2_5_30)]))]⟩ ∧ watchbilllaw04_weigh.l1 k (watchbilllaw04_weigh k) a1 m39 y2_0_25 y2_1_26 y2_2_27 y2_3_28 y2_4_29 y2_5_30 x5_23 x7_24 = some r) k ⟨y2_0_3, y2_1_4, y2_2_5, y2_3_6, y2_4_7, y2_5_8, x5_1, 0, rfl, H⟩ ?_
        rintro m39 σ ⟨y2_0_25, y2_1_26, y2_2_27, y2_3_28, y2_4_29, y2_5_30, x5_23, x7_24, rfl, H⟩
        cases m39 with
        | zero => exact absurd H (by simp [watchbilllaw04_weigh.l1])
        | succ m39 =>
          unfold watchbilllaw04_weigh.l1 at H
          refine Ok.seq ?_
          refine Ok.seq ?_
          refine Ok.region (σ' := ⟨[(1, (.v (.int .i64 a1))), (2, (.bref 2 0)), (5, (.v (.int .i64 x5_23))), (7, (.v (.int .i64 x7_24))), (88, (.v (.bool ((decide (x7_24 < (y2_4_29.length : Int))) && (decide (x5_23 ≤ a1))))))], [(2, (.box .ex [(.v (.int .i64 y2_0_25)), (S y2_1_26), (S y2_2_27), (L 3 e_api_Attr y2_3_28), (L 6 e_api_Node y2_4_29), (S y2_5_30)]))]⟩) ?_ ?_
          · refine .cv (VOk.mv (d := (.v (.int .i64 x7_24))) rfl rfl) rfl rfl ?_
            refine .cv (VOk.to (VOk.fieldB rfl Try.underlying27 rfl sz25 rfl rfl) rfl) rfl rfl ?_
            refine .cv (VOk.loadB (d := (L 6 e_api_Node y2_4_29)) rfl Try.underlying25 rfl rfl rfl rfl) rfl rfl ?_
            refine .cv (VOk.lenL (e := e_api_Node) (xs := y2_4_29) rfl Try.underlying25 rfl) rfl rfl ?_
            refine .cv (VOk.arith (op := .lss) (k := .i64) (a := x7_24) (b := (y2_4_29.length : Int)) rfl rfl rfl rfl) rfl rfl ?_
            refine .cv (VOk.mv (d := (.v (.bool (decide (x7_24 < (y2_4_29.length : Int)))))) rfl rfl) rfl rfl ?_
            refine OpsOk.consI rfl rfl rfl (.one rfl) rfl (fun hw40 => (VOk.g (VOk.mv (d := (.v (.int .i64 x5_23))) rfl rfl))) ?_
            refine OpsOk.consI rfl rfl rfl (.one rfl) rfl (fun hw40 => (VOk.g (VOk.mv (d := (.v (.int .i64 a1))) rfl rfl))) ?_
            refine OpsOk.consI rfl rfl rfl (.one rfl) rfl (fun hw40 => (GOk.fr (fr' := [(85, (.v (.int .i64 x5_23))), (86, (.v (.int .i64 a1)))]) ⟨DLe.of_eq (cT hw40).symm, DLe.of_eq (cT hw40).symm, trivial⟩ (VOk.g (VOk.arith (op := .leq) (k := .i64) (a := x5_23) (b := a1) rfl rfl rfl rfl)))) ?_
            refine .cv (VOk.to (VOk.pickI (b := (decide (x7_24 < (y2_4_29.length : Int)))) (p := (decide (x5_23 ≤ a1))) (q := false) rfl rfl (fun hp41 => (cT (t_beq hp41))) (fun hp41 => rfl)) (pickAnd (decide (x7_24 < (y2_4_29.length : Int))) (decide (x5_23 ≤ a1)))) rfl rfl ?_
            exact .done (.rf rfl rfl)
          refine Ok.test (b := ((decide (x7_24 < (y2_4_29.length : Int))) && (decide (x5_23 ≤ a1)))) rfl (fun hb45 => ?_) (fun hb45 => ?_)
          · replace H := ifT H hb45
            refine Ok.skip ?_
            refine Ok.seq ?_
            refine Ok.block ?_
            obtain ⟨c42, H⟩ := assertE H
            obtain ⟨t43, h44, H⟩ := bindE H
            refine Ok.region (σ' := ⟨[(1, (.v (.int .i64 a1))), (2, (.bref 2 0)), (5, (.v (.int .i64 (IntKind.i64.wrap (x5_23 + t43))))), (7, (.v (.int .i64 x7_24)))], [(2, (.box .ex [(.v (.int .i64 y2_0_25)), (S y2_1_26), (S y2_2_27), (L 3 e_api_Attr y2_3_28), (L 6 e_api_Node y2_4_29), (S y2_5_30)]))]⟩) ?_ ?_
            · refine .cv (VOk.mv (d := (.v (.int .i64 x5_23))) rfl rfl) rfl rfl ?_
              refine .cv (VOk.to (VOk.fieldB rfl Try.underlying27 rfl sz25 rfl rfl) rfl) rfl rfl ?_
              refine .cv (VOk.loadB (d := (L 6 e_api_Node y2_4_29)) rfl Try.underlying25 rfl rfl rfl rfl) rfl rfl ?_
              refine .cv (VOk.mv (d := (.v (.int .i64 x7_24))) rfl rfl) rfl rfl ?_
              refine .cv (VOk.indexL (sz := 6) (e := e_api_Node) (xs := y2_4_29) (i := x7_24) rfl Try.underlying25 sz27 rfl rfl c42) rfl rfl ?_
              refine .cv (VOk.to (d' := (.agg (e_api_Node (rd y2_4_29 x7_24)))) (.loadFpAgg rfl Try.underlying27 rfl sz27 rfl rfl) rfl) rfl rfl ?_
              refine .cv (VOk.mv (d := (.v (.int .i64 a1))) rfl rfl) rfl rfl ?_
              refine .cv (VOk.mv (d := (.v (.int .i64 x5_23))) rfl rfl) rfl rfl ?_
              refine .cv (VOk.arith (op := .sub) (k := .i64) (a := a1) (b := x5_23) rfl rfl rfl rfl) rfl rfl ?_
              refine .cg (GOk.call rfl rfl cl23 rfl (@ih _ _ _ h44) rfl) rfl rfl ?_
              refine .cv (VOk.arith (op := .add) (k := .i64) (a := x5_23) (b := t43) rfl rfl rfl rfl) rfl rfl ?_
              refine .cv (VOk.asg (d := (.v (.int .i64 (IntKind.i64.wrap (x5_23 + t43))))) rfl rfl) rfl rfl ?_
              exact .done (.rf rfl rfl)
            refine Ok.region (σ' := ⟨[(1, (.v (.int .i64 a1))), (2, (.bref 2 0)), (5, (.v (.int .i64 (IntKind.i64.wrap (x5_23 + t43))))), (7, (.v (.int .i64 (IntKind.i64.wrap (x7_24 + 1)))))], [(2, (.box .ex [(.v (.int .i64 y2_0_25)), (S y2_1_26), (S y2_2_27), (L 3 e_api_Attr y2_3_28), (L 6 e_api_Node y2_4_29), (S y2_5_30)]))]⟩) ?_ ?_
            · refine .cv (VOk.mv (d := (.v (.int .i64 x7_24))) rfl rfl) rfl rfl ?_
              refine .cv (VOk.arith (op := .add) (k := .i64) (a := x7_24) (b := 1) rfl rfl rfl rfl) rfl rfl ?_
              refine .cv (VOk.asg (d := (.v (.int .i64 (IntKind.i64.wrap (x7_24 + 1))))) rfl rfl) rfl rfl ?_
              exact .done (.rf rfl rfl)
            exact ⟨m39, Nat.lt_succ_self m39, y2_0_25, y2_1_26, y2_2_27, y2_3_28, y2_4_29, y2_5_30, (IntKind.i64.wrap (x5_23 + t43)), (IntKind.i64.wrap (x7_24 + 1)), rfl, H⟩
          · replace H := ifF H hb45
            refine Ok.exit ?_
            refine Ok.seq ?_
            refine Ok.region (σ' := ⟨[(4, (.v (.int .i64 x5_23)))], []⟩) ?_ ?_
            · refine .cv (VOk.mv (d := (.v (.int .i64 x5_23))) rfl rfl) rfl rfl ?_
              refine .cv (VOk.asg (d := (.v (.int .i64 x5_23))) rfl rfl) rfl rfl ?_
              exact .done (.rf rfl rfl)
            refine Ok.ret ?_
            obtain rfl := Option.some.inj H
            exact ⟨.inl rfl, ⟨_, (.cons (.tmp rfl) .nil), rfl⟩, trivial⟩

/-! watchbill/watchbilllaw04.Few: function 9 -/
def watchbilllaw04_Few (k : Nat) (a0 : T_api_Node) : Option Bool := ((watchbilllaw04_weigh k a0 30000).bind fun (t1 : Int) => some (decide (t1 ≤ 30000)))
theorem watchbilllaw04_Few.ok {k : Nat} {a0 : T_api_Node} {r : Bool} (H : watchbilllaw04_Few k a0 = some r) : Vx.Fn Try.prog 9 [(.agg (e_api_Node a0))] [] (.v (.bool r)) [] := by
  unfold watchbilllaw04_Few at H
  refine Vx.Fn.of_okR Try.func9 rfl (Nat.le_of_ble_eq_true rfl) ?_
  refine Ok.seq ?_
  refine Ok.region (σ' := ⟨[(1, (.bref 1 0))], [(1, (.box .ex (c_api_Node a0)))]⟩) ?_ ?_
  · refine OpsOk.cut1 0 (.agg [(.v (.int .i64 a0.Kind)), (S a0.Name.Space), (S a0.Name.Local), (L 3 e_api_Attr a0.Attrs), (L 6 e_api_Node a0.Kids), (S a0.Text)]) (DLe.of_eq (congrArg D.agg (e_api_Node_c _).symm)) ?_
    refine OpsOk.cons rfl (OpOk.box 1 (cells := [(.v (.int .i64 a0.Kind)), (S a0.Name.Space), (S a0.Name.Local), (L 3 e_api_Attr a0.Attrs), (L 6 e_api_Node a0.Kids), (S a0.Text)]) rfl rfl rfl rfl) ?_
    refine .cv (VOk.asg (d := (.v (.bool false))) rfl rfl) rfl rfl ?_
    exact .done (.rf rfl rfl)
  refine Ok.seq ?_
  obtain ⟨t1, h2, H⟩ := bindE H
  refine Ok.region (σ' := ⟨[(2, (.v (.bool (decide (t1 ≤ 30000)))))], []⟩) ?_ ?_
  · refine .cv (VOk.to (d' := (.agg (e_api_Node a0))) (.loadBAgg rfl Try.underlying27 rfl sz27 rfl rfl rfl) (congrArg D.agg (e_api_Node_c a0).symm)) rfl rfl ?_
    refine .cg (GOk.call rfl rfl cl23 rfl (watchbilllaw04_weigh.ok h2) rfl) rfl rfl ?_
    refine .cv (VOk.arith (op := .leq) (k := .i64) (a := t1) (b := 30000) rfl rfl rfl rfl) rfl rfl ?_
    refine .cv (VOk.asg (d := (.v (.bool (decide (t1 ≤ 30000))))) rfl rfl) rfl rfl ?_
    exact .done (.rf rfl rfl)
  refine Ok.ret ?_
  obtain rfl := Option.some.inj H
  exact ⟨.inl rfl, ⟨_, (.cons (.tmp rfl) .nil), rfl⟩, trivial⟩

/-! watchbill/watchbillref16.Is: function 28 -/
def watchbillref16_Is (a0 : T_api_Node) (a1 : Str) (a2 : Str) : Option Bool := some (((a0.Kind == 1) && (a0.Name.Space == a1)) && (a0.Name.Local == a2))
theorem watchbillref16_Is.ok {a0 : T_api_Node} {a1 : Str} {a2 : Str} {r : Bool} (H : watchbillref16_Is a0 a1 a2 = some r) : Vx.Fn Try.prog 28 [(.agg (e_api_Node a0)), (S a1), (S a2)] [] (.v (.bool r)) [] := by
  unfold watchbillref16_Is at H
  refine Vx.Fn.of_okR Try.func28 rfl (Nat.le_of_ble_eq_true rfl) ?_
  refine Ok.seq ?_
  refine Ok.region (σ' := ⟨[(1, (S a1)), (2, (S a2)), (3, (.bref 3 0))], [(3, (.box .ex (c_api_Node a0)))]⟩) ?_ ?_
  · refine OpsOk.cut1 0 (.agg [(.v (.int .i64 a0.Kind)), (S a0.Name.Space), (S a0.Name.Local), (L 3 e_api_Attr a0.Attrs), (L 6 e_api_Node a0.Kids), (S a0.Text)]) (DLe.of_eq (congrArg D.agg (e_api_Node_c _).symm)) ?_
    refine OpsOk.cons rfl (OpOk.box 3 (cells := [(.v (.int .i64 a0.Kind)), (S a0.Name.Space), (S a0.Name.Local), (L 3 e_api_Attr a0.Attrs), (L 6 e_api_Node a0.Kids), (S a0.Text)]) rfl rfl rfl rfl) ?_
    refine .cv (VOk.asg (d := (.v (.bool false))) rfl rfl) rfl rfl ?_
    exact .done (.rf rfl rfl)
  refine Ok.seq ?_
  refine Ok.region (σ' := ⟨[(6, (.v (.bool (((a0.Kind == 1) && (a0.Name.Space == a1)) && (a0.Name.Local == a2)))))], []⟩) ?_ ?_
  · refine .cv (VOk.to (VOk.fieldB rfl Try.underlying27 rfl sz3 rfl rfl) rfl) rfl rfl ?_
    refine .cv (VOk.loadB (d := (.v (.int .i64 a0.Kind))) rfl Try.underlying3 rfl rfl rfl rfl) rfl rfl ?_
    refine .cv (VOk.arith (op := .eql) (k := .i64) (a := a0.Kind) (b := 1) rfl rfl rfl rfl) rfl rfl ?_
    refine .cv (VOk.mv (d := (.v (.bool (a0.Kind == 1)))) rfl rfl) rfl rfl ?_
    refine OpsOk.consI rfl rfl rfl (.one rfl) rfl (fun hw1 => (VOk.g (VOk.to (VOk.fieldB rfl Try.underlying27 rfl sz23 rfl rfl) rfl))) ?_
    refine OpsOk.consI rfl rfl rfl (.one rfl) rfl (fun hw1 => (GOk.fr (fr' := [(11, (.bref 3 1))]) ⟨DLe.of_eq (cT hw1).symm, trivial⟩ (VOk.g (VOk.to (VOk.fieldB rfl Try.underlying23 rfl sz9 rfl rfl) rfl)))) ?_
    refine OpsOk.consI rfl rfl rfl (.one rfl) rfl (fun hw1 => (GOk.fr (fr' := [(12, (.bref 3 1))]) ⟨DLe.of_eq (cT hw1).symm, trivial⟩ (VOk.g (VOk.loadB (d := (S a0.Name.Space)) rfl Try.underlying9 rfl rfl rfl rfl)))) ?_
    refine OpsOk.consI rfl rfl rfl (.one rfl) rfl (fun hw1 => (VOk.g (VOk.mv (d := (S a1)) rfl rfl))) ?_
    refine OpsOk.consI rfl rfl rfl (.one rfl) rfl (fun hw1 => (GOk.fr (fr' := [(13, (S a0.Name.Space)), (14, (S a1))]) ⟨DLe.of_eq (cT hw1).symm, DLe.of_eq (cT hw1).symm, trivial⟩ (VOk.g (VOk.strOp (op := .eql) (a := a0.Name.Space) (b := a1) rfl rfl rfl rfl)))) ?_
    refine .cv (VOk.to (VOk.pickI (b := (a0.Kind == 1)) (p := (a0.Name.Space == a1)) (q := false) rfl rfl (fun hp2 => (cT (t_beq hp2))) (fun hp2 => rfl)) (pickAnd (a0.Kind == 1) (a0.Name.Space == a1))) rfl rfl ?_
    refine .cv (VOk.mv (d := (.v (.bool ((a0.Kind == 1) && (a0.Name.Space == a1))))) rfl rfl) rfl rfl ?_
    refine OpsOk.consI rfl rfl rfl (.one rfl) rfl (fun hw3 => (VOk.g (VOk.to (VOk.fieldB rfl Try.underlying27 rfl sz23 rfl rfl) rfl))) ?_
    refine OpsOk.consI rfl rfl rfl (.one rfl) rfl (fun hw3 => (GOk.fr (fr' := [(18, (.bref 3 1))]) ⟨DLe.of_eq (cT hw3).symm, trivial⟩ (VOk.g (VOk.to (VOk.fieldB rfl Try.underlying23 rfl sz9 rfl rfl) rfl)))) ?_
    refine OpsOk.consI rfl rfl rfl (.one rfl) rfl (fun hw3 => (GOk.fr (fr' := [(19, (.bref 3 2))]) ⟨DLe.of_eq (cT hw3).symm, trivial⟩ (VOk.g (VOk.loadB (d := (S a0.Name.Local)) rfl Try.underlying9 rfl rfl rfl rfl)))) ?_
    refine OpsOk.consI rfl rfl rfl (.one rfl) rfl (fun hw3 => (VOk.g (VOk.mv (d := (S a2)) rfl rfl))) ?_
    refine OpsOk.consI rfl rfl rfl (.one rfl) rfl (fun hw3 => (GOk.fr (fr' := [(20, (S a0.Name.Local)), (21, (S a2))]) ⟨DLe.of_eq (cT hw3).symm, DLe.of_eq (cT hw3).symm, trivial⟩ (VOk.g (VOk.strOp (op := .eql) (a := a0.Name.Local) (b := a2) rfl rfl rfl rfl)))) ?_
    refine .cv (VOk.to (VOk.pickI (b := ((a0.Kind == 1) && (a0.Name.Space == a1))) (p := (a0.Name.Local == a2)) (q := false) rfl rfl (fun hp4 => (cT (t_beq hp4))) (fun hp4 => rfl)) (pickAnd ((a0.Kind == 1) && (a0.Name.Space == a1)) (a0.Name.Local == a2))) rfl rfl ?_
    refine .cv (VOk.asg (d := (.v (.bool (((a0.Kind == 1) && (a0.Name.Space == a1)) && (a0.Name.Local == a2))))) rfl rfl) rfl rfl ?_
    exact .done (.rf rfl rfl)
  refine Ok.ret ?_
  obtain rfl := Option.some.inj H
  exact ⟨.inl rfl, ⟨_, (.cons (.tmp rfl) .nil), rfl⟩, trivial⟩

/-! watchbill/watchbillref01.Blank: function 73 -/
def watchbillref01_Blank (a0 : Int) : Option Bool := some ((((a0 == 9) || (a0 == 10)) || (a0 == 13)) || (a0 == 32))
theorem watchbillref01_Blank.ok {a0 : Int} {r : Bool} (H : watchbillref01_Blank a0 = some r) : Vx.Fn Try.prog 73 [(.v (.int .u8 a0))] [] (.v (.bool r)) [] := by
  unfold watchbillref01_Blank at H
  refine Vx.Fn.of_okR Try.func73 rfl (Nat.le_of_ble_eq_true rfl) ?_
  refine Ok.seq ?_
  refine Ok.region (σ' := ⟨[(0, (.v (.int .u8 a0)))], []⟩) ?_ ?_
  · refine .cv (VOk.asg (d := (.v (.bool false))) rfl rfl) rfl rfl ?_
    exact .done (.rf rfl rfl)
  refine Ok.seq ?_
  refine Ok.region (σ' := ⟨[(2, (.v (.bool ((((a0 == 9) || (a0 == 10)) || (a0 == 13)) || (a0 == 32)))))], []⟩) ?_ ?_
  · refine .cv (VOk.mv (d := (.v (.int .u8 a0))) rfl rfl) rfl rfl ?_
    refine .cv (VOk.arith (op := .eql) (k := .u8) (a := a0) (b := 9) rfl rfl rfl rfl) rfl rfl ?_
    refine .cv (VOk.mv (d := (.v (.bool (a0 == 9)))) rfl rfl) rfl rfl ?_
    refine OpsOk.consI rfl rfl rfl (.one rfl) rfl (fun hw1 => (VOk.g (VOk.mv (d := (.v (.int .u8 a0))) rfl rfl))) ?_
    refine OpsOk.consI rfl rfl rfl (.one rfl) rfl (fun hw1 => (GOk.fr (fr' := [(6, (.v (.int .u8 a0)))]) ⟨DLe.of_eq (cT hw1).symm, trivial⟩ (VOk.g (VOk.arith (op := .eql) (k := .u8) (a := a0) (b := 10) rfl rfl rfl rfl)))) ?_
    refine .cv (VOk.to (VOk.pickI (b := (a0 == 9)) (p := true) (q := (a0 == 10)) rfl rfl (fun hp2 => rfl) (fun hp2 => (cT (f_beq hp2)))) (pickOr (a0 == 9) (a0 == 10))) rfl rfl ?_
    refine .cv (VOk.mv (d := (.v (.bool ((a0 == 9) || (a0 == 10))))) rfl rfl) rfl rfl ?_
    refine OpsOk.consI rfl rfl rfl (.one rfl) rfl (fun hw3 => (VOk.g (VOk.mv (d := (.v (.int .u8 a0))) rfl rfl))) ?_
    refine OpsOk.consI rfl rfl rfl (.one rfl) rfl (fun hw3 => (GOk.fr (fr' := [(10, (.v (.int .u8 a0)))]) ⟨DLe.of_eq (cT hw3).symm, trivial⟩ (VOk.g (VOk.arith (op := .eql) (k := .u8) (a := a0) (b := 13) rfl rfl rfl rfl)))) ?_
    refine .cv (VOk.to (VOk.pickI (b := ((a0 == 9) || (a0 == 10))) (p := true) (q := (a0 == 13)) rfl rfl (fun hp4 => rfl) (fun hp4 => (cT (f_beq hp4)))) (pickOr ((a0 == 9) || (a0 == 10)) (a0 == 13))) rfl rfl ?_
    refine .cv (VOk.mv (d := (.v (.bool (((a0 == 9) || (a0 == 10)) || (a0 == 13))))) rfl rfl) rfl rfl ?_
    refine OpsOk.consI rfl rfl rfl (.one rfl) rfl (fun hw5 => (VOk.g (VOk.mv (d := (.v (.int .u8 a0))) rfl rfl))) ?_
    refine OpsOk.consI rfl rfl rfl (.one rfl) rfl (fun hw5 => (GOk.fr (fr' := [(14, (.v (.int .u8 a0)))]) ⟨DLe.of_eq (cT hw5).symm, trivial⟩ (VOk.g (VOk.arith (op := .eql) (k := .u8) (a := a0) (b := 32) rfl rfl rfl rfl)))) ?_
    refine .cv (VOk.to (VOk.pickI (b := (((a0 == 9) || (a0 == 10)) || (a0 == 13))) (p := true) (q := (a0 == 32)) rfl rfl (fun hp6 => rfl) (fun hp6 => (cT (f_beq hp6)))) (pickOr (((a0 == 9) || (a0 == 10)) || (a0 == 13)) (a0 == 32))) rfl rfl ?_
    refine .cv (VOk.asg (d := (.v (.bool ((((a0 == 9) || (a0 == 10)) || (a0 == 13)) || (a0 == 32))))) rfl rfl) rfl rfl ?_
    exact .done (.rf rfl rfl)
  refine Ok.ret ?_
  obtain rfl := Option.some.inj H
  exact ⟨.inl rfl, ⟨_, (.cons (.tmp rfl) .nil), rfl⟩, trivial⟩

/-! watchbill/watchbillref01.Trim: function 53 -/
def watchbillref01_Trim.l1 (k : Nat) (a0 : Str) (x3_1 : Int) : Nat → Int → Option Str
  | 0, _ => none
  | m11 + 1, x4_9 => (if (((decide (x4_9 > x3_1)) == true) = true → (0 : Int) ≤ (IntKind.i64.wrap (x4_9 - 1)) ∧ (IntKind.i64.wrap (x4_9 - 1)) < (a0.length : Int)) then (((if ((decide (x4_9 > x3_1)) == true) = true then watchbillref01_Blank (bt a0 (IntKind.i64.wrap (x4_9 - 1))) else some default)).bind fun (t14 : Bool) => (if ((decide (x4_9 > x3_1)) && t14) = true then watchbillref01_Trim.l1 k a0 x3_1 m11 (IntKind.i64.wrap (x4_9 - 1)) else (if (0 : Int) ≤ x3_1 ∧ x3_1 ≤ x4_9 ∧ x4_9 ≤ (a0.length : Int) then some (sl a0 x3_1 x4_9) else none))) else none)
def watchbillref01_Trim.l0 (k : Nat) (a0 : Str) : Nat → Int → Option Str
  | 0, _ => none
  | m3 + 1, x3_1 => (if (((decide (x3_1 < (a0.length : Int))) == true) = true → (0 : Int) ≤ x3_1 ∧ x3_1 < (a0.length : Int)) then (((if ((decide (x3_1 < (a0.length : Int))) == true) = true then watchbillref01_Blank (bt a0 x3_1) else some default)).bind fun (t6 : Bool) => (if ((decide (x3_1 < (a0.length : Int))) && t6) = true then watchbillref01_Trim.l0 k a0 m3 (IntKind.i64.wrap (x3_1 + 1)) else watchbillref01_Trim.l1 k a0 x3_1 k (a0.length : Int))) else none)
def watchbillref01_Trim (k : Nat) (a0 : Str) : Option Str := watchbillref01_Trim.l0 k a0 k 0
theorem watchbillref01_Trim.ok {k : Nat} {a0 : Str} {r : Str} (H : watchbillref01_Trim k a0 = some r) : Vx.Fn Try.prog 53 [(S a0)] [] (S r) [] := by
  unfold watchbillref01_Trim at H
  refine Vx.Fn.of_okR Try.func53 rfl (Nat.le_of_ble_eq_true rfl) ?_
  refine Ok.seq ?_
  refine Ok.region (σ' := ⟨[(0, (S a0))], []⟩) ?_ ?_
  · refine .cv (VOk.asg (d := (S ([] : Str))) rfl rfl) rfl rfl ?_
    exact .done (.rf rfl rfl)
  refine Ok.seq ?_
  refine Ok.region (σ' := ⟨[(0, (S a0)), (3, (.v (.int .i64 0)))], []⟩) ?_ ?_
  · refine .cv (VOk.asg (d := (.v (.int .i64 0))) rfl rfl) rfl rfl ?_
    exact .done (.rf rfl rfl)
  refine Ok.seq ?_
  refine Ok.region (σ' := ⟨[(0, (S a0)), (3, (.v (.int .i64 0))), (4, (.v (.int .i64 (a0.length : Int))))], []⟩) ?_ ?_
  · refine .cv (VOk.mv (d := (S a0)) rfl rfl) rfl rfl ?_
    refine .cv (VOk.lenStr (s := a0) rfl Try.underlying9 rfl) rfl rfl ?_
    refine .cv (VOk.asg (d := (.v (.int .i64 (a0.length : Int)))) rfl rfl) rfl rfl ?_
    exact .done (.rf rfl rfl)
  refine Ok.seq ?_
  refine Ok.block ?_
  refine Ok.le (σ' := ⟨[(0, (S a0)), (3, (.v (.int .i64 0))), (4, (.v (.int .i64 (a0.length : Int))))], []⟩) (.rf rfl rfl) ?_
  refine Ok.loop (fun m3 σ => ∃ (x3_1 : Int), σ = ⟨[(0, (S a0)), (3, (.v (.int .i64 x3_1))), (4, (.v (.int .i64 (a0.length : Int))))], []⟩ ∧ watchbillref01_Trim.l0 k a0 m3 x3_1 = some r) k ⟨0, rfl, H⟩ ?_
  rintro m3 σ ⟨x3_1, rfl, H⟩
  cases m3 with
  | zero => exact absurd H (by simp [watchbillref01_Trim.l0])
  | succ m3 =>
    unfold watchbillref01_Trim.l0 at H
    refine Ok.seq ?_
    refine Ok.seq ?_
    obtain ⟨c5, H⟩ := assertE H
    obtain ⟨t6, h7, H⟩ := bindE H
    refine Ok.region (σ' := ⟨[(0, (S a0)), (3, (.v (.int .i64 x3_1))), (4, (.v (.int .i64 (a0.length : Int)))), (15, (.v (.bool ((decide (x3_1 < (a0.length : Int))) && t6))))], []⟩) ?_ ?_
    · refine .cv (VOk.mv (d := (.v (.int .i64 x3_1))) rfl rfl) rfl rfl ?_
      refine .cv (VOk.mv (d := (.v (.int .i64 (a0.length : Int)))) rfl rfl) rfl rfl ?_
      refine .cv (VOk.arith (op := .lss) (k := .i64) (a := x3_1) (b := (a0.length : Int)) rfl rfl rfl rfl) rfl rfl ?_
      refine .cv (VOk.mv (d := (.v (.bool (decide (x3_1 < (a0.length : Int)))))) rfl rfl) rfl rfl ?_
      refine OpsOk.consI rfl rfl rfl (.one rfl) rfl (fun hw4 => (VOk.g (VOk.mv (d := (S a0)) rfl rfl))) ?_
      refine OpsOk.consI rfl rfl rfl (.one rfl) rfl (fun hw4 => (VOk.g (VOk.mv (d := (.v (.int .i64 x3_1))) rfl rfl))) ?_
      refine OpsOk.consI rfl rfl rfl (.one rfl) rfl (fun hw4 => (GOk.fr (fr' := [(11, (S a0)), (12, (.v (.int .i64 x3_1)))]) ⟨DLe.of_eq (cT hw4).symm, DLe.of_eq (cT hw4).symm, trivial⟩ (VOk.g (VOk.indexStr (s := a0) (i := x3_1) rfl Try.underlying9 rfl rfl (c5 hw4))))) ?_
      refine OpsOk.consI rfl rfl rfl (.one rfl) rfl (fun hw4 => (GOk.fr (fr' := [(13, (.v (.int .u8 (bt a0 x3_1))))]) ⟨DLe.of_eq (cT hw4).symm, trivial⟩ (GOk.call rfl rfl cl73 rfl (watchbillref01_Blank.ok (ifT h7 hw4)) rfl))) ?_
      refine .cv (VOk.to (VOk.pickI (b := (decide (x3_1 < (a0.length : Int)))) (p := t6) (q := false) rfl rfl (fun hp8 => (cT (t_beq hp8))) (fun hp8 => rfl)) (pickAnd (decide (x3_1 < (a0.length : Int))) t6)) rfl rfl ?_
      exact .done (.rf rfl rfl)
    refine Ok.test (b := ((decide (x3_1 < (a0.length : Int))) && t6)) rfl (fun hb19 => ?_) (fun hb19 => ?_)
    · replace H := ifT H hb19
      refine Ok.skip ?_
      refine Ok.block ?_
      refine Ok.region (σ' := ⟨[(0, (S a0)), (3, (.v (.int .i64 (IntKind.i64.wrap (x3_1 + 1))))), (4, (.v (.int .i64 (a0.length : Int))))], []⟩) ?_ ?_
      · refine .cv (VOk.mv (d := (.v (.int .i64 x3_1))) rfl rfl) rfl rfl ?_
        refine .cv (VOk.arith (op := .add) (k := .i64) (a := x3_1) (b := 1) rfl rfl rfl rfl) rfl rfl ?_
        refine .cv (VOk.asg (d := (.v (.int .i64 (IntKind.i64.wrap (x3_1 + 1))))) rfl rfl) rfl rfl ?_
        exact .done (.rf rfl rfl)
      exact ⟨m3, Nat.lt_succ_self m3, (IntKind.i64.wrap (x3_1 + 1)), rfl, H⟩
    · replace H := ifF H hb19
      refine Ok.exit ?_
      refine Ok.seq ?_
      refine Ok.block ?_
      refine Ok.le (σ' := ⟨[(0, (S a0)), (3, (.v (.int .i64 x3_1))), (4, (.v (.int .i64 (a0.length : Int))))], []⟩) (.rf rfl rfl) ?_
      refine Ok.loop (fun m11 σ => ∃ (x4_9 : Int), σ = ⟨[(0, (S a0)), (3, (.v (.int .i64 x3_1))), (4, (.v (.int .i64 x4_9)))], []⟩ ∧ watchbillref01_Trim.l1 k a0 x3_1 m11 x4_9 = some r) k ⟨(a0.length : Int), rfl, H⟩ ?_
      rintro m11 σ ⟨x4_9, rfl, H⟩
      cases m11 with
      | zero => exact absurd H (by simp [watchbillref01_Trim.l1])
      | succ m11 =>
        unfold watchbillref01_Trim.l1 at H
        refine Ok.seq ?_
        refine Ok.seq ?_
        obtain ⟨c13, H⟩ := assertE H
        obtain ⟨t14, h15, H⟩ := bindE H
        refine Ok.region (σ' := ⟨[(0, (S a0)), (3, (.v (.int .i64 x3_1))), (4, (.v (.int .i64 x4_9))), (27, (.v (.bool ((decide (x4_9 > x3_1)) && t14))))], []⟩) ?_ ?_
        · refine .cv (VOk.mv (d := (.v (.int .i64 x4_9))) rfl rfl) rfl rfl ?_
          refine .cv (VOk.mv (d := (.v (.int .i64 x3_1))) rfl rfl) rfl rfl ?_
          refine .cv (VOk.arith (op := .gtr) (k := .i64) (a := x4_9) (b := x3_1) rfl rfl rfl rfl) rfl rfl ?_
          refine .cv (VOk.mv (d := (.v (.bool (decide (x4_9 > x3_1))))) rfl rfl) rfl rfl ?_
          refine OpsOk.consI rfl rfl rfl (.one rfl) rfl (fun hw12 => (VOk.g (VOk.mv (d := (S a0)) rfl rfl))) ?_
          refine OpsOk.consI rfl rfl rfl (.one rfl) rfl (fun hw12 => (VOk.g (VOk.mv (d := (.v (.int .i64 x4_9))) rfl rfl))) ?_
          refine OpsOk.consI rfl rfl rfl (.one rfl) rfl (fun hw12 => (GOk.fr (fr' := [(23, (.v (.int .i64 x4_9)))]) ⟨DLe.of_eq (cT hw12).symm, trivial⟩ (VOk.g (VOk.arith (op := .sub) (k := .i64) (a := x4_9) (b := 1) rfl rfl rfl rfl)))) ?_
          refine OpsOk.consI rfl rfl rfl (.one rfl) rfl (fun hw12 => (GOk.fr (fr' := [(22, (S a0)), (24, (.v (.int .i64 (IntKind.i64.wrap (x4_9 - 1)))))]) ⟨DLe.of_eq (cT hw12).symm, DLe.of_eq (cT hw12).symm, trivial⟩ (VOk.g (VOk.indexStr (s := a0) (i := (IntKind.i64.wrap (x4_9 - 1))) rfl Try.underlying9 rfl rfl (c13 hw12))))) ?_
          refine OpsOk.consI rfl rfl rfl (.one rfl) rfl (fun hw12 => (GOk.fr (fr' := [(25, (.v (.int .u8 (bt a0 (IntKind.i64.wrap (x4_9 - 1))))))]) ⟨DLe.of_eq (cT hw12).symm, trivial⟩ (GOk.call rfl rfl cl73 rfl (watchbillref01_Blank.ok (ifT h15 hw12)) rfl))) ?_
          refine .cv (VOk.to (VOk.pickI (b := (decide (x4_9 > x3_1))) (p := t14) (q := false) rfl rfl (fun hp16 => (cT (t_beq hp16))) (fun hp16 => rfl)) (pickAnd (decide (x4_9 > x3_1)) t14)) rfl rfl ?_
          exact .done (.rf rfl rfl)
        refine Ok.test (b := ((decide (x4_9 > x3_1)) && t14)) rfl (fun hb18 => ?_) (fun hb18 => ?_)
        · replace H := ifT H hb18
          refine Ok.skip ?_
          refine Ok.block ?_
          refine Ok.region (σ' := ⟨[(0, (S a0)), (3, (.v (.int .i64 x3_1))), (4, (.v (.int .i64 (IntKind.i64.wrap (x4_9 - 1)))))], []⟩) ?_ ?_
          · refine .cv (VOk.mv (d := (.v (.int .i64 x4_9))) rfl rfl) rfl rfl ?_
            refine .cv (VOk.arith (op := .sub) (k := .i64) (a := x4_9) (b := 1) rfl rfl rfl rfl) rfl rfl ?_
            refine .cv (VOk.asg (d := (.v (.int .i64 (IntKind.i64.wrap (x4_9 - 1))))) rfl rfl) rfl rfl ?_
            exact .done (.rf rfl rfl)
          exact ⟨m11, Nat.lt_succ_self m11, (IntKind.i64.wrap (x4_9 - 1)), rfl, H⟩
        · replace H := ifF H hb18
          refine Ok.exit ?_
          refine Ok.seq ?_
          obtain ⟨c17, H⟩ := assertE H
          refine Ok.region (σ' := ⟨[(2, (S (sl a0 x3_1 x4_9)))], []⟩) ?_ ?_
          · refine .cv (VOk.mv (d := (S a0)) rfl rfl) rfl rfl ?_
            refine .cv (VOk.mv (d := (.v (.int .i64 x3_1))) rfl rfl) rfl rfl ?_
            refine .cv (VOk.mv (d := (.v (.int .i64 x4_9))) rfl rfl) rfl rfl ?_
            refine .cv (VOk.sliceStr (s := a0) (l := x3_1) (h := x4_9) rfl Try.underlying9 rfl rfl rfl c17) rfl rfl ?_
            refine .cv (VOk.asg (d := (S (sl a0 x3_1 x4_9))) rfl rfl) rfl rfl ?_
            exact .done (.rf rfl rfl)
          refine Ok.ret ?_
          obtain rfl := Option.some.inj H
          exact ⟨.inl rfl, ⟨_, (.cons (.tmp rfl) .nil), rfl⟩, trivial⟩

/-! watchbill/watchbillref16.Blank: function 29 -/
def watchbillref16_Blank.l0 (k : Nat) : Nat → Int → Str → Str → List T_api_Attr → List T_api_Node → Str → Int → Option Bool
  | 0, _, _, _, _, _, _, _ => none
  | m15 + 1, y1_0_2, y1_1_3, y1_2_4, y1_3_5, y1_4_6, y1_5_7, x3_1 => (if (decide (x3_1 < (y1_4_6.length : Int))) = true then (if (0 : Int) ≤ x3_1 ∧ x3_1 < (y1_4_6.length : Int) then (if (((((rd y1_4_6 x3_1).Kind) == 2) == true) = true → (0 : Int) ≤ x3_1 ∧ x3_1 < (y1_4_6.length : Int)) then (((if ((((rd y1_4_6 x3_1).Kind) == 2) == true) = true then watchbillref01_Trim k ((rd y1_4_6 x3_1).Text) else some default)).bind fun (t19 : Str) => (if ((((rd y1_4_6 x3_1).Kind) == 2) && (!(t19 == ([] : Str)))) = true then some false else watchbillref16_Blank.l0 k m15 y1_0_2 y1_1_3 y1_2_4 y1_3_5 y1_4_6 y1_5_7 (IntKind.i64.wrap (x3_1 + 1)))) else none) else none) else some true)
def watchbillref16_Blank (k : Nat) (a0 : T_api_Node) : Option Bool := watchbillref16_Blank.l0 k k a0.Kind a0.Name.Space a0.Name.Local a0.Attrs a0.Kids a0.Text 0
theorem watchbillref16_Blank.ok {k : Nat} {a0 : T_api_Node} {r : Bool} (H : watchbillref16_Blank k a0 = some r) : Vx.Fn Try.prog 29 [(.agg (e_api_Node a0))] [] (.v (.bool r)) [] := by
  unfold watchbillref16_Blank at H
  refine Vx.Fn.of_okR Try.func29 rfl (Nat.le_of_ble_eq_true rfl) ?_
  refine Ok.seq ?_
  refine Ok.region (σ' := ⟨[(1, (.bref 1 0))], [(1, (.box .ex (c_api_Node a0)))]⟩) ?_ ?_
  · refine OpsOk.cut1 0 (.agg [(.v (.int .i64 a0.Kind)), (S a0.Name.Space), (S a0.Name.Local), (L 3 e_api_Attr a0.Attrs), (L 6 e_api_Node a0.Kids), (S a0.Text)]) (DLe.of_eq (congrArg D.agg (e_api_Node_c _).symm)) ?_
    refine OpsOk.cons rfl (OpOk.box 1 (cells := [(.v (.int .i64 a0.Kind)), (S a0.Name.Space), (S a0.Name.Local), (L 3 e_api_Attr a0.Attrs), (L 6 e_api_Node a0.Kids), (S a0.Text)]) rfl rfl rfl rfl) ?_
    refine .cv (VOk.asg (d := (.v (.bool false))) rfl rfl) rfl rfl ?_
    exact .done (.rf rfl rfl)
  refine Ok.seq ?_
  refine Ok.seq ?_
  refine Ok.region (σ' := ⟨[(1, (.bref 1 0)), (3, (.v (.int .i64 0)))], [(1, (.box .ex (c_api_Node a0)))]⟩) ?_ ?_
  · refine .cv (VOk.asg (d := (.v (.int .i64 0))) rfl rfl) rfl rfl ?_
    exact .done (.rf rfl rfl)
  refine Ok.block ?_
  refine Ok.le (σ' := ⟨[(1, (.bref 1 0)), (3, (.v (.int .i64 0)))], [(1, (.box .ex (c_api_Node a0)))]⟩) (.rf rfl rfl) ?_
  refine Ok.loop (fun m15 σ => ∃ (y1_0_2 : Int) (y1_1_3 : Str) (y1_2_4 : Str) (y1_3_5 : List T_api_Attr) (y1_4_6 : List T_api_Node) (y1_5_7 : Str) (x3_1 : Int), σ = ⟨[(1, (.bref 1 0)), (3, (.v (.int .i64 x3_1)))], [(1, (.box .ex [(.v (.int .i64 y1_0_2)), (S y1_1_3), (S y1_2_4), (L 3 e_api_Attr y1_3_5), (L 6 e_api_Node y1_4_6), (S y1_5_7)]))]⟩ ∧ watchbillref16_Blank.l0 k m15 y1_0_2 y1_1_3 y1_2_4 y1_3_5 y1_4_6 y1_5_7 x3_1 = some r) k ⟨a0.Kind, a0.Name.Space, a0.Name.Local, a0.Attrs, a0.Kids, a0.Text, 0, rfl, H⟩ ?_
  rintro m15 σ ⟨y1_0_2, y1_1_3, y1_2_4, y1_3_5, y1_4_6, y1_5_7, x3_1, rfl, H⟩
  cases m15 with
  | zero => exact absurd H (by simp [watchbillref16_Blank.l0])
  | succ m15 =>
    unfold watchbillref16_Blank.l0 at H
    refine Ok.seq ?_
    refine Ok.seq ?_
    refine Ok.region (σ' := ⟨[(1, (.bref 1 0)), (3, (.v (.int .i64 x3_1))), (8, (.v (.bool (decide (x3_1 < (y1_4_6.length : Int))))))], [(1, (.box .ex [(.v (.int .i64 y1_0_2)), (S y1_1_3), (S y1_2_4), (L 3 e_api_Attr y1_3_5), (L 6 e_api_Node y1_4_6), (S y1_5_7)]))]⟩) ?_ ?_
    · refine .cv (VOk.mv (d := (.v (.int .i64 x3_1))) rfl rfl) rfl rfl ?_
      refine .cv (VOk.to (VOk.fieldB rfl Try.underlying27 rfl sz25 rfl rfl) rfl) rfl rfl ?_
      refine .cv (VOk.loadB (d := (L 6 e_api_Node y1_4_6)) rfl Try.underlying25 rfl rfl rfl rfl) rfl rfl ?_
      refine .cv (VOk.lenL (e := e_api_Node) (xs := y1_4_6) rfl Try.underlying25 rfl) rfl rfl ?_
      refine .cv (VOk.arith (op := .lss) (k := .i64) (a := x3_1) (b := (y1_4_6.length : Int)) rfl rfl rfl rfl) rfl rfl ?_
      exact .done (.rf rfl rfl)
    refine Ok.test (b := (decide (x3_1 < (y1_4_6.length : Int)))) rfl (fun hb23 => ?_) (fun hb23 => ?_)
    · replace H := ifT H hb23
      refine Ok.skip ?_
      refine Ok.seq ?_
      refine Ok.block ?_
      refine Ok.seq ?_
      obtain ⟨c16, H⟩ := assertE H
      obtain ⟨c18, H⟩ := assertE H
      obtain ⟨t19, h20, H⟩ := bindE H
      refine Ok.region (σ' := ⟨[(1, (.bref 1 0)), (3, (.v (.int .i64 x3_1))), (27, (.v (.bool ((((rd y1_4_6 x3_1).Kind) == 2) && (!(t19 == ([] : Str)))))))], [(1, (.box .ex [(.v (.int .i64 y1_0_2)), (S y1_1_3), (S y1_2_4), (L 3 e_api_Attr y1_3_5), (L 6 e_api_Node y1_4_6), (S y1_5_7)]))]⟩) ?_ ?_
      · refine .cv (VOk.to (VOk.fieldB rfl Try.underlying27 rfl sz25 rfl rfl) rfl) rfl rfl ?_
        refine .cv (VOk.loadB (d := (L 6 e_api_Node y1_4_6)) rfl Try.underlying25 rfl rfl rfl rfl) rfl rfl ?_
        refine .cv (VOk.mv (d := (.v (.int .i64 x3_1))) rfl rfl) rfl rfl ?_
        refine .cv (VOk.indexL (sz := 6) (e := e_api_Node) (xs := y1_4_6) (i := x3_1) rfl Try.underlying25 sz27 rfl rfl c16) rfl rfl ?_
        refine .cv (VOk.to (VOk.fieldFp rfl Try.underlying27 rfl sz3 rfl) rfl) rfl rfl ?_
        refine .cv (VOk.loadFp (d := (.v (.int .i64 ((rd y1_4_6 x3_1).Kind)))) rfl Try.underlying3 rfl rfl rfl) rfl rfl ?_
        refine .cv (VOk.arith (op := .eql) (k := .i64) (a := (rd y1_4_6 x3_1).Kind) (b := 2) rfl rfl rfl rfl) rfl rfl ?_
        refine .cv (VOk.mv (d := (.v (.bool (((rd y1_4_6 x3_1).Kind) == 2)))) rfl rfl) rfl rfl ?_
        refine OpsOk.consI rfl rfl rfl (.one rfl) rfl (fun hw17 => (VOk.g (VOk.to (VOk.fieldB rfl Try.underlying27 rfl sz25 rfl rfl) rfl))) ?_
        refine OpsOk.consI rfl rfl rfl (.one rfl) rfl (fun hw17 => (GOk.fr (fr' := [(19, (.bref 1 4))]) ⟨DLe.of_eq (cT hw17).symm, trivial⟩ (VOk.g (VOk.loadB (d := (L 6 e_api_Node y1_4_6)) rfl Try.underlying25 rfl rfl rfl rfl)))) ?_
        refine OpsOk.consI rfl rfl rfl (.one rfl) rfl (fun hw17 => (VOk.g (VOk.mv (d := (.v (.int .i64 x3_1))) rfl rfl))) ?_
        refine OpsOk.consI rfl rfl rfl (.one rfl) rfl (fun hw17 => (GOk.fr (fr' := [(20, (L 6 e_api_Node y1_4_6)), (21, (.v (.int .i64 x3_1)))]) ⟨DLe.of_eq (cT hw17).symm, DLe.of_eq (cT hw17).symm, trivial⟩ (VOk.g (VOk.indexL (sz := 6) (e := e_api_Node) (xs := y1_4_6) (i := x3_1) rfl Try.underlying25 sz27 rfl rfl (c18 hw17))))) ?_
        refine OpsOk.consI rfl rfl rfl (.one rfl) rfl (fun hw17 => (GOk.fr (fr' := [(22, (.fp (e_api_Node (rd y1_4_6 x3_1)) 0))]) ⟨DLe.of_eq (cT hw17).symm, trivial⟩ (VOk.g (VOk.to (VOk.fieldFp rfl Try.underlying27 rfl sz9 rfl) rfl)))) ?_
        refine OpsOk.consI rfl rfl rfl (.one rfl) rfl (fun hw17 => (GOk.fr (fr' := [(23, (.fp (e_api_Node (rd y1_4_6 x3_1)) 5))]) ⟨DLe.of_eq (cT hw17).symm, trivial⟩ (VOk.g (VOk.loadFp (d := (S ((rd y1_4_6 x3_1).Text))) rfl Try.underlying9 rfl rfl rfl)))) ?_
        refine OpsOk.consI rfl rfl rfl (.one rfl) rfl (fun hw17 => (GOk.fr (fr' := [(24, (S ((rd y1_4_6 x3_1).Text)))]) ⟨DLe.of_eq (cT hw17).symm, trivial⟩ (GOk.call rfl rfl cl53 rfl (watchbillref01_Trim.ok (ifT h20 hw17)) rfl))) ?_
        refine OpsOk.consI rfl rfl rfl (.one rfl) rfl (fun hw17 => (GOk.fr (fr' := [(25, (S t19))]) ⟨DLe.of_eq (cT hw17).symm, trivial⟩ (VOk.g (VOk.strOp (op := .neq) (a := t19) (b := ([] : Str)) rfl rfl rfl rfl)))) ?_
        refine .cv (VOk.to (VOk.pickI (b := (((rd y1_4_6 x3_1).Kind) == 2)) (p := (!(t19 == ([] : Str)))) (q := false) rfl rfl (fun hp21 => (cT (t_beq hp21))) (fun hp21 => rfl)) (pickAnd (((rd y1_4_6 x3_1).Kind) == 2) (!(t19 == ([] : Str))))) rfl rfl ?_
        exact .done (.rf rfl rfl)
      refine Ok.test (b := ((((rd y1_4_6 x3_1).Kind) == 2) && (!(t19 == ([] : Str))))) rfl (fun hb22 => ?_) (fun hb22 => ?_)
      · replace H := ifT H hb22
        refine Ok.seq ?_
        refine Ok.region (σ' := ⟨[(2, (.v (.bool false)))], []⟩) ?_ ?_
        · refine .cv (VOk.asg (d := (.v (.bool false))) rfl rfl) rfl rfl ?_
          exact .done (.rf rfl rfl)
        refine Ok.ret ?_
        obtain rfl := Option.some.inj H
        exact ⟨.inl rfl, ⟨_, (.cons (.tmp rfl) .nil), rfl⟩, trivial⟩
      · replace H := ifF H hb22
        refine Ok.skip ?_
        refine Ok.region (σ' := ⟨[(1, (.bref 1 0)), (3, (.v (.int .i64 (IntKind.i64.wrap (x3_1 + 1)))))], [(1, (.box .ex [(.v (.int .i64 y1_0_2)), (S y1_1_3), (S y1_2_4), (L 3 e_api_Attr y1_3_5), (L 6 e_api_Node y1_4_6), (S y1_5_7)]))]⟩) ?_ ?_
        · refine .cv (VOk.mv (d := (.v (.int .i64 x3_1))) rfl rfl) rfl rfl ?_
          refine .cv (VOk.arith (op := .add) (k := .i64) (a := x3_1) (b := 1) rfl rfl rfl rfl) rfl rfl ?_
          refine .cv (VOk.asg (d := (.v (.int .i64 (IntKind.i64.wrap (x3_1 + 1))))) rfl rfl) rfl rfl ?_
          exact .done (.rf rfl rfl)
        exact ⟨m15, Nat.lt_succ_self m15, y1_0_2, y1_1_3, y1_2_4, y1_3_5, y1_4_6, y1_5_7, (IntKind.i64.wrap (x3_1 + 1)), rfl, H⟩
    · replace H := ifF H hb23
      refine Ok.exit ?_
      refine Ok.seq ?_
      refine Ok.region (σ' := ⟨[(2, (.v (.bool true)))], []⟩) ?_ ?_
      · refine .cv (VOk.asg (d := (.v (.bool true))) rfl rfl) rfl rfl ?_
        exact .done (.rf rfl rfl)
      refine Ok.ret ?_
      obtain rfl := Option.some.inj H
      exact ⟨.inl rfl, ⟨_, (.cons (.tmp rfl) .nil), rfl⟩, trivial⟩

/-! watchbill/watchbillref16.Kids: function 30 -/
def watchbillref16_Kids.l0 (k : Nat) (a1 : Str) : Nat → Int → Str → Str → List T_api_Attr → List T_api_Node → Str → List T_api_Node → Int → Option (List T_api_Node)
  | 0, _, _, _, _, _, _, _, _ => none
  | m17 + 1, y2_0_2, y2_1_3, y2_2_4, y2_3_5, y2_4_6, y2_5_7, y5_8, x6_1 => (if (decide (x6_1 < (y2_4_6.length : Int))) = true then (if (0 : Int) ≤ x6_1 ∧ x6_1 < (y2_4_6.length : Int) then (if (((((rd y2_4_6 x6_1).Kind) == 1) == true) = true → (0 : Int) ≤ x6_1 ∧ x6_1 < (y2_4_6.length : Int)) then (if ((((rd y2_4_6 x6_1).Kind) == 1) && ((((rd y2_4_6 x6_1).Name).Space) == a1)) = true then (if (0 : Int) ≤ x6_1 ∧ x6_1 < (y2_4_6.length : Int) then (if (y5_8.length + ([(rd y2_4_6 x6_1)] : List T_api_Node).length) * 104 ≤ 140737488355328 then watchbillref16_Kids.l0 k a1 m17 y2_0_2 y2_1_3 y2_2_4 y2_3_5 y2_4_6 y2_5_7 (y5_8 ++ ([(rd y2_4_6 x6_1)] : List T_api_Node)) (IntKind.i64.wrap (x6_1 + 1)) else none) else none) else watchbillref16_Kids.l0 k a1 m17 y2_0_2 y2_1_3 y2_2_4 y2_3_5 y2_4_6 y2_5_7 y5_8 (IntKind.i64.wrap (x6_1 + 1))) else none) else none) else some y5_8)
def watchbillref16_Kids (k : Nat) (a0 : T_api_Node) (a1 : Str) : Option (List T_api_Node) := watchbillref16_Kids.l0 k a1 k a0.Kind a0.Name.Space a0.Name.Local a0.Attrs a0.Kids a0.Text ([] : List T_api_Node) 0
theorem watchbillref16_Kids.ok {k : Nat} {a0 : T_api_Node} {a1 : Str} {r : (List T_api_Node)} (H : watchbillref16_Kids k a0 a1 = some r) : Vx.Fn Try.prog 30 [(.agg (e_api_Node a0)), (S a1)] [] (L 6 e_api_Node r) [] := by
  unfold watchbillref16_Kids at H
  refine Vx.Fn.of_okR Try.func30 rfl (Nat.le_of_ble_eq_true rfl) ?_
  refine Ok.seq ?_
  refine Ok.region (σ' := ⟨[(1, (S a1)), (2, (.bref 2 0))], [(2, (.box .ex (c_api_Node a0)))]⟩) ?_ ?_
  · refine OpsOk.cut1 0 (.agg [(.v (.int .i64 a0.Kind)), (S a0.Name.Space), (S a0.Name.Local), (L 3 e_api_Attr a0.Attrs), (L 6 e_api_Node a0.Kids), (S a0.Text)]) (DLe.of_eq (congrArg D.agg (e_api_Node_c _).symm)) ?_
    refine OpsOk.cons rfl (OpOk.box 2 (cells := [(.v (.int .i64 a0.Kind)), (S a0.Name.Space), (S a0.Name.Local), (L 3 e_api_Attr a0.Attrs), (L 6 e_api_Node a0.Kids), (S a0.Text)]) rfl rfl rfl rfl) ?_
    refine .cv (VOk.asg (d := (.v (.slice none 0 0))) rfl rfl) rfl rfl ?_
    exact .done (.rf rfl rfl)
  refine Ok.seq ?_
  refine Ok.region (σ' := ⟨[(1, (S a1)), (2, (.bref 2 0)), (5, (.sref 5))], [(2, (.box .ex (c_api_Node a0))), (5, (.rows true 27 6 (([] : List T_api_Node).map e_api_Node)))]⟩) ?_ ?_
  · refine OpsOk.cons rfl (.nilT 5 27 6 (.inl rfl) rfl rfl) ?_
    exact .done (.rf rfl rfl)
  refine Ok.seq ?_
  refine Ok.seq ?_
  refine Ok.region (σ' := ⟨[(1, (S a1)), (2, (.bref 2 0)), (5, (.sref 5)), (6, (.v (.int .i64 0)))], [(2, (.box .ex (c_api_Node a0))), (5, (.rows true 27 6 (([] : List T_api_Node).map e_api_Node)))]⟩) ?_ ?_
  · refine .cv (VOk.asg (d := (.v (.int .i64 0))) rfl rfl) rfl rfl ?_
    exact .done (.rf rfl rfl)
  refine Ok.block ?_
  refine Ok.le (σ' := ⟨[(1, (S a1)), (2, (.bref 2 0)), (5, (.sref 5)), (6, (.v (.int .i64 0)))], [(2, (.box .ex (c_api_Node a0))), (5, (.rows true 27 6 (([] : List T_api_Node).map e_api_Node)))]⟩) (.rf rfl rfl) ?_
  refine Ok.loop (fun m17 σ => ∃ (y2_0_2 : Int) (y2_1_3 : Str) (y2_2_4 : Str) (y2_3_5 : List T_api_Attr) (y2_4_6 : List T_api_Node) (y2_5_7 : Str) (y5_8 : List T_api_Node) (x6_1 : Int), σ = ⟨[(1, (S a1)), (2, (.bref 2 0)), (5, (.sref 5)), (6, (.v (.int .i64 x6_1)))], [(2, (.box .ex [(.v (.int .i64 y2_0_2)), (S y2_1_3), (S y2_2_4), (L 3 e_api_Attr y2_3_5), (L 6 e_api_Node y2_4_6), (S y2_5_7)])), (5, (.rows true 27 6 (y5_8.map e_api_Node)))]⟩ ∧ watchbillref16_Kids.l0 k a1 m17 y2_0_2 y2_1_3 y2_2_4 y2_3_5 y2_4_6 y2_5_7 y5_8 x6_1 = some r) k ⟨a0.Kind, a0.Name.Space, a0.Name.Local, a0.Attrs, a0.Kids, a0.Text, ([] : List T_api_Node), 0, rfl, H⟩ ?_
  rintro m17 σ ⟨y2_0_2, y2_1_3, y2_2_4, y2_3_5, y2_4_6, y2_5_7, y5_8, x6_1, rfl, H⟩
  cases m17 with
  | zero => exact absurd H (by simp [watchbillref16_Kids.l0])
  | succ m17 =>
    unfold watchbillref16_Kids.l0 at H
    refine Ok.seq ?_
    refine Ok.seq ?_
    refine Ok.region (σ' := ⟨[(1, (S a1)), (2, (.bref 2 0)), (5, (.sref 5)), (6, (.v (.int .i64 x6_1))), (11, (.v (.bool (decide (x6_1 < (y2_4_6.length : Int))))))], [(2, (.box .ex [(.v (.int .i64 y2_0_2)), (S y2_1_3), (S y2_2_4), (L 3 e_api_Attr y2_3_5), (L 6 e_api_Node y2_4_6), (S y2_5_7)])), (5, (.rows true 27 6 (y5_8.map e_api_Node)))]⟩) ?_ ?_
    · refine .cv (VOk.mv (d := (.v (.int .i64 x6_1))) rfl rfl) rfl rfl ?_
      refine .cv (VOk.to (VOk.fieldB rfl Try.underlying27 rfl sz25 rfl rfl) rfl) rfl rfl ?_
      refine .cv (VOk.loadB (d := (L 6 e_api_Node y2_4_6)) rfl Try.underlying25 rfl rfl rfl rfl) rfl rfl ?_
      refine .cv (VOk.lenL (e := e_api_Node) (xs := y2_4_6) rfl Try.underlying25 rfl) rfl rfl ?_
      refine .cv (VOk.arith (op := .lss) (k := .i64) (a := x6_1) (b := (y2_4_6.length : Int)) rfl rfl rfl rfl) rfl rfl ?_
      exact .done (.rf rfl rfl)
    refine Ok.test (b := (decide (x6_1 < (y2_4_6.length : Int)))) rfl (fun hb25 => ?_) (fun hb25 => ?_)
    · replace H := ifT H hb25
      refine Ok.skip ?_
      refine Ok.seq ?_
      refine Ok.block ?_
      refine Ok.seq ?_
      obtain ⟨c18, H⟩ := assertE H
      obtain ⟨c20, H⟩ := assertE H
      refine Ok.region (σ' := ⟨[(1, (S a1)), (2, (.bref 2 0)), (5, (.sref 5)), (6, (.v (.int .i64 x6_1))), (31, (.v (.bool ((((rd y2_4_6 x6_1).Kind) == 1) && ((((rd y2_4_6 x6_1).Name).Space) == a1)))))], [(2, (.box .ex [(.v (.int .i64 y2_0_2)), (S y2_1_3), (S y2_2_4), (L 3 e_api_Attr y2_3_5), (L 6 e_api_Node y2_4_6), (S y2_5_7)])), (5, (.rows true 27 6 (y5_8.map e_api_Node)))]⟩) ?_ ?_
      · refine .cv (VOk.to (VOk.fieldB rfl Try.underlying27 rfl sz25 rfl rfl) rfl) rfl rfl ?_
        refine .cv (VOk.loadB (d := (L 6 e_api_Node y2_4_6)) rfl Try.underlying25 rfl rfl rfl rfl) rfl rfl ?_
        refine .cv (VOk.mv (d := (.v (.int .i64 x6_1))) rfl rfl) rfl rfl ?_
        refine .cv (VOk.indexL (sz := 6) (e := e_api_Node) (xs := y2_4_6) (i := x6_1) rfl Try.underlying25 sz27 rfl rfl c18) rfl rfl ?_
        refine .cv (VOk.to (VOk.fieldFp rfl Try.underlying27 rfl sz3 rfl) rfl) rfl rfl ?_
        refine .cv (VOk.loadFp (d := (.v (.int .i64 ((rd y2_4_6 x6_1).Kind)))) rfl Try.underlying3 rfl rfl rfl) rfl rfl ?_
        refine .cv (VOk.arith (op := .eql) (k := .i64) (a := (rd y2_4_6 x6_1).Kind) (b := 1) rfl rfl rfl rfl) rfl rfl ?_
        refine .cv (VOk.mv (d := (.v (.bool (((rd y2_4_6 x6_1).Kind) == 1)))) rfl rfl) rfl rfl ?_
        refine OpsOk.consI rfl rfl rfl (.one rfl) rfl (fun hw19 => (VOk.g (VOk.to (VOk.fieldB rfl Try.underlying27 rfl sz25 rfl rfl) rfl))) ?_
        refine OpsOk.consI rfl rfl rfl (.one rfl) rfl (fun hw19 => (GOk.fr (fr' := [(22, (.bref 2 4))]) ⟨DLe.of_eq (cT hw19).symm, trivial⟩ (VOk.g (VOk.loadB (d := (L 6 e_api_Node y2_4_6)) rfl Try.underlying25 rfl rfl rfl rfl)))) ?_
        refine OpsOk.consI rfl rfl rfl (.one rfl) rfl (fun hw19 => (VOk.g (VOk.mv (d := (.v (.int .i64 x6_1))) rfl rfl))) ?_
        refine OpsOk.consI rfl rfl rfl (.one rfl) rfl (fun hw19 => (GOk.fr (fr' := [(23, (L 6 e_api_Node y2_4_6)), (24, (.v (.int .i64 x6_1)))]) ⟨DLe.of_eq (cT hw19).symm, DLe.of_eq (cT hw19).symm, trivial⟩ (VOk.g (VOk.indexL (sz := 6) (e := e_api_Node) (xs := y2_4_6) (i := x6_1) rfl Try.underlying25 sz27 rfl rfl (c20 hw19))))) ?_
        refine OpsOk.consI rfl rfl rfl (.one rfl) rfl (fun hw19 => (GOk.fr (fr' := [(25, (.fp (e_api_Node (rd y2_4_6 x6_1)) 0))]) ⟨DLe.of_eq (cT hw19).symm, trivial⟩ (VOk.g (VOk.to (VOk.fieldFp rfl Try.underlying27 rfl sz23 rfl) rfl)))) ?_
        refine OpsOk.consI rfl rfl rfl (.one rfl) rfl (fun hw19 => (GOk.fr (fr' := [(26, (.fp (e_api_Node (rd y2_4_6 x6_1)) 1))]) ⟨DLe.of_eq (cT hw19).symm, trivial⟩ (VOk.g (VOk.to (VOk.fieldFp rfl Try.underlying23 rfl sz9 rfl) rfl)))) ?_
        refine OpsOk.consI rfl rfl rfl (.one rfl) rfl (fun hw19 => (GOk.fr (fr' := [(27, (.fp (e_api_Node (rd y2_4_6 x6_1)) 1))]) ⟨DLe.of_eq (cT hw19).symm, trivial⟩ (VOk.g (VOk.loadFp (d := (S (((rd y2_4_6 x6_1).Name).Space))) rfl Try.underlying9 rfl rfl rfl)))) ?_
        refine OpsOk.consI rfl rfl rfl (.one rfl) rfl (fun hw19 => (VOk.g (VOk.mv (d := (S a1)) rfl rfl))) ?_
        refine OpsOk.consI rfl rfl rfl (.one rfl) rfl (fun hw19 => (GOk.fr (fr' := [(28, (S (((rd y2_4_6 x6_1).Name).Space))), (29, (S a1))]) ⟨DLe.of_eq (cT hw19).symm, DLe.of_eq (cT hw19).symm, trivial⟩ (VOk.g (VOk.strOp (op := .eql) (a := ((rd y2_4_6 x6_1).Name).Space) (b := a1) rfl rfl rfl rfl)))) ?_
        refine .cv (VOk.to (VOk.pickI (b := (((rd y2_4_6 x6_1).Kind) == 1)) (p := ((((rd y2_4_6 x6_1).Name).Space) == a1)) (q := false) rfl rfl (fun hp21 => (cT (t_beq hp21))) (fun hp21 => rfl)) (pickAnd (((rd y2_4_6 x6_1).Kind) == 1) ((((rd y2_4_6 x6_1).Name).Space) == a1))) rfl rfl ?_
        exact .done (.rf rfl rfl)
      refine Ok.test (b := ((((rd y2_4_6 x6_1).Kind) == 1) && ((((rd y2_4_6 x6_1).Name).Space) == a1))) rfl (fun hb24 => ?_) (fun hb24 => ?_)
      · replace H := ifT H hb24
        obtain ⟨c22, H⟩ := assertE H
        obtain ⟨c23, H⟩ := assertE H
        refine Ok.region (σ' := ⟨[(1, (S a1)), (2, (.bref 2 0)), (5, (.sref 5)), (6, (.v (.int .i64 x6_1)))], [(2, (.box .ex [(.v (.int .i64 y2_0_2)), (S y2_1_3), (S y2_2_4), (L 3 e_api_Attr y2_3_5), (L 6 e_api_Node y2_4_6), (S y2_5_7)])), (5, (.rows true 27 6 ((y5_8 ++ ([(rd y2_4_6 x6_1)] : List T_api_Node)).map e_api_Node)))]⟩) ?_ ?_
        · refine .cv (VOk.mv (d := (.sref 5)) rfl rfl) rfl rfl ?_
          refine .cv (VOk.to (VOk.fieldB rfl Try.underlying27 rfl sz25 rfl rfl) rfl) rfl rfl ?_
          refine .cv (VOk.loadB (d := (L 6 e_api_Node y2_4_6)) rfl Try.underlying25 rfl rfl rfl rfl) rfl rfl ?_
          refine .cv (VOk.mv (d := (.v (.int .i64 x6_1))) rfl rfl) rfl rfl ?_
          refine .cv (VOk.indexL (sz := 6) (e := e_api_Node) (xs := y2_4_6) (i := x6_1) rfl Try.underlying25 sz27 rfl rfl c22) rfl rfl ?_
          refine .cv (VOk.to (d' := (.agg (e_api_Node (rd y2_4_6 x6_1)))) (.loadFpAgg rfl Try.underlying27 rfl sz27 rfl rfl) rfl) rfl rfl ?_
          refine .cg (GOk.to (d' := (L 6 e_api_Node ([(rd y2_4_6 x6_1)] : List T_api_Node))) (GOk.lit rfl Try.underlying25 sz27 zs27 rfl rfl rfl rfl) rfl) rfl rfl ?_
          refine OpsOk.cons rfl (OpOk.appendL (e := e_api_Node) (xs := y5_8) (ys := ([(rd y2_4_6 x6_1)] : List T_api_Node)) rfl Try.underlying25 elt27 rfl rfl rfl c23 rfl) ?_
          refine .cv (VOk.asg (d := (.sref 5)) rfl rfl) rfl rfl ?_
          exact .done (.rf rfl rfl)
        refine Ok.region (σ' := ⟨[(1, (S a1)), (2, (.bref 2 0)), (5, (.sref 5)), (6, (.v (.int .i64 (IntKind.i64.wrap (x6_1 + 1)))))], [(2, (.box .ex [(.v (.int .i64 y2_0_2)), (S y2_1_3), (S y2_2_4), (L 3 e_api_Attr y2_3_5), (L 6 e_api_Node y2_4_6), (S y2_5_7)])), (5, (.rows true 27 6 ((y5_8 ++ ([(rd y2_4_6 x6_1)] : List T_api_Node)).map e_api_Node)))]⟩) ?_ ?_
        · refine .cv (VOk.mv (d := (.v (.int .i64 x6_1))) rfl rfl) rfl rfl ?_
          refine .cv (VOk.arith (op := .add) (k := .i64) (a := x6_1) (b := 1) rfl rfl rfl rfl) rfl rfl ?_
          refine .cv (VOk.asg (d := (.v (.int .i64 (IntKind.i64.wrap (x6_1 + 1))))) rfl rfl) rfl rfl ?_
          exact .done (.rf rfl rfl)
        exact ⟨m17, Nat.lt_succ_self m17, y2_0_2, y2_1_3, y2_2_4, y2_3_5, y2_4_6, y2_5_7, (y5_8 ++ ([(rd y2_4_6 x6_1)] : List T_api_Node)), (IntKind.i64.wrap (x6_1 + 1)), rfl, H⟩
      · replace H := ifF H hb24
        refine Ok.skip ?_
        refine Ok.region (σ' := ⟨[(1, (S a1)), (2, (.bref 2 0)), (5, (.sref 5)), (6, (.v (.int .i64 (IntKind.i64.wrap (x6_1 + 1)))))], [(2, (.box .ex [(.v (.int .i64 y2_0_2)), (S y2_1_3), (S y2_2_4), (L 3 e_api_Attr y2_3_5), (L 6 e_api_Node y2_4_6), (S y2_5_7)])), (5, (.rows true 27 6 (y5_8.map e_api_Node)))]⟩) ?_ ?_
        · refine .cv (VOk.mv (d := (.v (.int .i64 x6_1))) rfl rfl) rfl rfl ?_
          refine .cv (VOk.arith (op := .add) (k := .i64) (a := x6_1) (b := 1) rfl rfl rfl rfl) rfl rfl ?_
          refine .cv (VOk.asg (d := (.v (.int .i64 (IntKind.i64.wrap (x6_1 + 1))))) rfl rfl) rfl rfl ?_
          exact .done (.rf rfl rfl)
        exact ⟨m17, Nat.lt_succ_self m17, y2_0_2, y2_1_3, y2_2_4, y2_3_5, y2_4_6, y2_5_7, y5_8, (IntKind.i64.wrap (x6_1 + 1)), rfl, H⟩
    · replace H := ifF H hb25
      refine Ok.exit ?_
      refine Ok.seq ?_
      refine Ok.region (σ' := ⟨[(4, (.sref 5))], [(5, (.rows true 27 6 (y5_8.map e_api_Node)))]⟩) ?_ ?_
      · refine .cv (VOk.mv (d := (.sref 5)) rfl rfl) rfl rfl ?_
        refine .cv (VOk.asg (d := (.sref 5)) rfl rfl) rfl rfl ?_
        exact .done (.rf rfl rfl)
      refine Ok.frzL 5 (e := e_api_Node) (xs := y5_8) rfl ?_
      refine Ok.ret ?_
      obtain rfl := Option.some.inj H
      exact ⟨.inl rfl, ⟨_, (.cons (.tmp rfl) .nil), rfl⟩, trivial⟩

/-! watchbill/watchbillref17.parts: function 54 -/
def watchbillref17_parts.l0 (k : Nat) : Nat → Int → Str → Str → List T_api_Attr → List T_api_Node → Str → List T_api_Node → Int → Option (List T_api_Node)
  | 0, _, _, _, _, _, _, _, _ => none
  | m17 + 1, y1_0_2, y1_1_3, y1_2_4, y1_3_5, y1_4_6, y1_5_7, y3_8, x4_1 => (if (decide (x4_1 < (y1_4_6.length : Int))) = true then (if (0 : Int) ≤ x4_1 ∧ x4_1 < (y1_4_6.length : Int) then (((if (((((rd y1_4_6 x4_1).Kind) == 1) && (((rd y1_4_6 x4_1).Name.Space) == ([117, 114, 110, 58, 105, 101, 116, 102, 58, 112, 97, 114, 97, 109, 115, 58, 120, 109, 108, 58, 110, 115, 58, 114, 108, 115, 45, 115, 101, 114, 118, 105, 99, 101, 115] : Str))) == false) = true then watchbillref16_Is (rd y1_4_6 x4_1) ([117, 114, 110, 58, 105, 101, 116, 102, 58, 112, 97, 114, 97, 109, 115, 58, 120, 109, 108, 58, 110, 115, 58, 114, 101, 115, 111, 117, 114, 99, 101, 45, 108, 105, 115, 116, 115] : Str) ([108, 105, 115, 116] : Str) else some default)).bind fun (t22 : Bool) => (if (((((rd y1_4_6 x4_1).Kind) == 1) && (((rd y1_4_6 x4_1).Name.Space) == ([117, 114, 110, 58, 105, 101, 116, 102, 58, 112, 97, 114, 97, 109, 115, 58, 120, 109, 108, 58, 110, 115, 58, 114, 108, 115, 45, 115, 101, 114, 118, 105, 99, 101, 115] : Str))) || t22) = true then (if (y3_8.length + ([(rd y1_4_6 x4_1)] : List T_api_Node).length) * 104 ≤ 140737488355328 then watchbillref17_parts.l0 k m17 y1_0_2 y1_1_3 y1_2_4 y1_3_5 y1_4_6 y1_5_7 (y3_8 ++ ([(rd y1_4_6 x4_1)] : List T_api_Node)) (IntKind.i64.wrap (x4_1 + 1)) else none) else watchbillref17_parts.l0 k m17 y1_0_2 y1_1_3 y1_2_4 y1_3_5 y1_4_6 y1_5_7 y3_8 (IntKind.i64.wrap (x4_1 + 1)))) else none) else some y3_8)
def watchbillref17_parts (k : Nat) (a0 : T_api_Node) : Option (List T_api_Node) := watchbillref17_parts.l0 k k a0.Kind a0.Name.Space a0.Name.Local a0.Attrs a0.Kids a0.Text ([] : List T_api_Node) 0
theorem watchbillref17_parts.ok {k : Nat} {a0 : T_api_Node} {r : (List T_api_Node)} (H : watchbillref17_parts k a0 = some r) : Vx.Fn Try.prog 54 [(.agg (e_api_Node a0))] [] (L 6 e_api_Node r) [] := by
  unfold watchbillref17_parts at H
  refine Vx.Fn.of_okR Try.func54 rfl (Nat.le_of_ble_eq_true rfl) ?_
  refine Ok.seq ?_
  refine Ok.region (σ' := ⟨[(1, (.bref 1 0))], [(1, (.box .ex (c_api_Node a0)))]⟩) ?_ ?_
  · refine OpsOk.cut1 0 (.agg [(.v (.int .i64 a0.Kind)), (S a0.Name.Space), (S a0.Name.Local), (L 3 e_api_Attr a0.Attrs), (L 6 e_api_Node a0.Kids), (S a0.Text)]) (DLe.of_eq (congrArg D.agg (e_api_Node_c _).symm)) ?_
    refine OpsOk.cons rfl (OpOk.box 1 (cells := [(.v (.int .i64 a0.Kind)), (S a0.Name.Space), (S a0.Name.Local), (L 3 e_api_Attr a0.Attrs), (L 6 e_api_Node a0.Kids), (S a0.Text)]) rfl rfl rfl rfl) ?_
    refine .cv (VOk.asg (d := (.v (.slice none 0 0))) rfl rfl) rfl rfl ?_
    exact .done (.rf rfl rfl)
  refine Ok.seq ?_
  refine Ok.region (σ' := ⟨[(1, (.bref 1 0)), (3, (.sref 3))], [(1, (.box .ex (c_api_Node a0))), (3, (.rows true 27 6 (([] : List T_api_Node).map e_api_Node)))]⟩) ?_ ?_
  · refine OpsOk.cons rfl (.nilT 3 27 6 (.inl rfl) rfl rfl) ?_
    exact .done (.rf rfl rfl)
  refine Ok.seq ?_
  refine Ok.seq ?_
  refine Ok.region (σ' := ⟨[(1, (.bref 1 0)), (3, (.sref 3)), (4, (.v (.int .i64 0)))], [(1, (.box .ex (c_api_Node a0))), (3, (.rows true 27 6 (([] : List T_api_Node).map e_api_Node)))]⟩) ?_ ?_
  · refine .cv (VOk.asg (d := (.v (.int .i64 0))) rfl rfl) rfl rfl ?_
    exact .done (.rf rfl rfl)
  refine Ok.block ?_
  refine Ok.le (σ' := ⟨[(1, (.bref 1 0)), (3, (.sref 3)), (4, (.v (.int .i64 0)))], [(1, (.box .ex (c_api_Node a0))), (3, (.rows true 27 6 (([] : List T_api_Node).map e_api_Node)))]⟩) (.rf rfl rfl) ?_
  refine Ok.loop (fun m17 σ => ∃ (y1_0_2 : Int) (y1_1_3 : Str) (y1_2_4 : Str) (y1_3_5 : List T_api_Attr) (y1_4_6 : List T_api_Node) (y1_5_7 : Str) (y3_8 : List T_api_Node) (x4_1 : Int), σ = ⟨[(1, (.bref 1 0)), (3, (.sref 3)), (4, (.v (.int .i64 x4_1)))], [(1, (.box .ex [(.v (.int .i64 y1_0_2)), (S y1_1_3), (S y1_2_4), (L 3 e_api_Attr y1_3_5), (L 6 e_api_Node y1_4_6), (S y1_5_7)])), (3, (.rows true 27 6 (y3_8.map e_api_Node)))]⟩ ∧ watchbillref17_parts.l0 k m17 y1_0_2 y1_1_3 y1_2_4 y1_3_5 y1_4_6 y1_5_7 y3_8 x4_1 = some r) k ⟨a0.Kind, a0.Name.Space, a0.Name.Local, a0.Attrs, a0.Kids, a0.Text, ([] : List T_api_Node), 0, rfl, H⟩ ?_
  rintro m17 σ ⟨y1_0_2, y1_1_3, y1_2_4, y1_3_5, y1_4_6, y1_5_7, y3_8, x4_1, rfl, H⟩
  cases m17 with
  | zero => exact absurd H (by simp [watchbillref17_parts.l0])
  | succ m17 =>
    unfold watchbillref17_parts.l0 at H
    refine Ok.seq ?_
    refine Ok.seq ?_
    refine Ok.region (σ' := ⟨[(1, (.bref 1 0)), (3, (.sref 3)), (4, (.v (.int .i64 x4_1))), (10, (.v (.bool (decide (x4_1 < (y1_4_6.length : Int))))))], [(1, (.box .ex [(.v (.int .i64 y1_0_2)), (S y1_1_3), (S y1_2_4), (L 3 e_api_Attr y1_3_5), (L 6 e_api_Node y1_4_6), (S y1_5_7)])), (3, (.rows true 27 6 (y3_8.map e_api_Node)))]⟩) ?_ ?_
    · refine .cv (VOk.mv (d := (.v (.int .i64 x4_1))) rfl rfl) rfl rfl ?_
      refine .cv (VOk.to (VOk.fieldB rfl Try.underlying27 rfl sz25 rfl rfl) rfl) rfl rfl ?_
      refine .cv (VOk.loadB (d := (L 6 e_api_Node y1_4_6)) rfl Try.underlying25 rfl rfl rfl rfl) rfl rfl ?_
      refine .cv (VOk.lenL (e := e_api_Node) (xs := y1_4_6) rfl Try.underlying25 rfl) rfl rfl ?_
      refine .cv (VOk.arith (op := .lss) (k := .i64) (a := x4_1) (b := (y1_4_6.length : Int)) rfl rfl rfl rfl) rfl rfl ?_
      exact .done (.rf rfl rfl)
    refine Ok.test (b := (decide (x4_1 < (y1_4_6.length : Int)))) rfl (fun hb27 => ?_) (fun hb27 => ?_)
    · replace H := ifT H hb27
      refine Ok.skip ?_
      refine Ok.seq ?_
      refine Ok.block ?_
      refine Ok.seq ?_
      obtain ⟨c18, H⟩ := assertE H
      refine Ok.region (σ' := ⟨[(1, (.bref 1 0)), (3, (.sref 3)), (4, (.v (.int .i64 x4_1))), (5, (.bref 5 0))], [(1, (.box .ex [(.v (.int .i64 y1_0_2)), (S y1_1_3), (S y1_2_4), (L 3 e_api_Attr y1_3_5), (L 6 e_api_Node y1_4_6), (S y1_5_7)])), (3, (.rows true 27 6 (y3_8.map e_api_Node))), (5, (.box .ex (c_api_Node (rd y1_4_6 x4_1))))]⟩) ?_ ?_
      · refine .cv (VOk.to (VOk.fieldB rfl Try.underlying27 rfl sz25 rfl rfl) rfl) rfl rfl ?_
        refine .cv (VOk.loadB (d := (L 6 e_api_Node y1_4_6)) rfl Try.underlying25 rfl rfl rfl rfl) rfl rfl ?_
        refine .cv (VOk.mv (d := (.v (.int .i64 x4_1))) rfl rfl) rfl rfl ?_
        refine .cv (VOk.indexL (sz := 6) (e := e_api_Node) (xs := y1_4_6) (i := x4_1) rfl Try.underlying25 sz27 rfl rfl c18) rfl rfl ?_
        refine .cv (VOk.to (d' := (.agg (e_api_Node (rd y1_4_6 x4_1)))) (.loadFpAgg rfl Try.underlying27 rfl sz27 rfl rfl) rfl) rfl rfl ?_
        refine OpsOk.cons rfl (OpOk.alloc 5 [none, none, none, some 3, some 6, none] rfl zo27 rfl rfl) ?_
        refine OpsOk.cut1 17 (.agg [(.v (.int .i64 ((rd y1_4_6 x4_1).Kind))), (S ((rd y1_4_6 x4_1).Name.Space)), (S ((rd y1_4_6 x4_1).Name.Local)), (L 3 e_api_Attr ((rd y1_4_6 x4_1).Attrs)), (L 6 e_api_Node ((rd y1_4_6 x4_1).Kids)), (S ((rd y1_4_6 x4_1).Text))]) (DLe.of_eq (congrArg D.agg (e_api_Node_c _).symm)) ?_
        refine OpsOk.cons rfl (OpOk.to (σ2 := St.put ⟨_, (5, (.box .ex (c_api_Node (rd y1_4_6 x4_1)))) :: _⟩ _ .junk) (.storeB rfl sz27 rfl rfl rfl rfl rfl rfl) rfl) ?_
        exact .done (.rf rfl rfl)
      refine Ok.seq ?_
      obtain ⟨t22, h23, H⟩ := bindE H
      refine Ok.region (σ' := ⟨[(1, (.bref 1 0)), (3, (.sref 3)), (4, (.v (.int .i64 x4_1))), (5, (.bref 5 0)), (30, (.v (.bool (((((rd y1_4_6 x4_1).Kind) == 1) && (((rd y1_4_6 x4_1).Name.Space) == ([117, 114, 110, 58, 105, 101, 116, 102, 58, 112, 97, 114, 97, 109, 115, 58, 120, 109, 108, 58, 110, 115, 58, 114, 108, 115, 45, 115, 101, 114, 118, 105, 99, 101, 115] : Str))) || t22))))], [(1, (.box .ex [(.v (.int .i64 y1_0_2)), (S y1_1_3), (S y1_2_4), (L 3 e_api_Attr y1_3_5), (L 6 e_api_Node y1_4_6), (S y1_5_7)])), (3, (.rows true 27 6 (y3_8.map e_api_Node))), (5, (.box .ex (c_api_Node (rd y1_4_6 x4_1))))]⟩) ?_ ?_
      · refine .cv (VOk.to (VOk.fieldB rfl Try.underlying27 rfl sz3 rfl rfl) rfl) rfl rfl ?_
        refine .cv (VOk.loadB (d := (.v (.int .i64 ((rd y1_4_6 x4_1).Kind)))) rfl Try.underlying3 rfl rfl rfl rfl) rfl rfl ?_
        refine .cv (VOk.arith (op := .eql) (k := .i64) (a := (rd y1_4_6 x4_1).Kind) (b := 1) rfl rfl rfl rfl) rfl rfl ?_
        refine .cv (VOk.mv (d := (.v (.bool (((rd y1_4_6 x4_1).Kind) == 1)))) rfl rfl) rfl rfl ?_
        refine OpsOk.consI rfl rfl rfl (.one rfl) rfl (fun hw19 => (VOk.g (VOk.to (VOk.fieldB rfl Try.underlying27 rfl sz23 rfl rfl) rfl))) ?_
        refine OpsOk.consI rfl rfl rfl (.one rfl) rfl (fun hw19 => (GOk.fr (fr' := [(22, (.bref 5 1))]) ⟨DLe.of_eq (cT hw19).symm, trivial⟩ (VOk.g (VOk.to (VOk.fieldB rfl Try.underlying23 rfl sz9 rfl rfl) rfl)))) ?_
        refine OpsOk.consI rfl rfl rfl (.one rfl) rfl (fun hw19 => (GOk.fr (fr' := [(23, (.bref 5 1))]) ⟨DLe.of_eq (cT hw19).symm, trivial⟩ (VOk.g (VOk.loadB (d := (S ((rd y1_4_6 x4_1).Name.Space))) rfl Try.underlying9 rfl rfl rfl rfl)))) ?_
        refine OpsOk.consI rfl rfl rfl (.one rfl) rfl (fun hw19 => (GOk.fr (fr' := [(24, (S ((rd y1_4_6 x4_1).Name.Space)))]) ⟨DLe.of_eq (cT hw19).symm, trivial⟩ (VOk.g (VOk.strOp (op := .eql) (a := (rd y1_4_6 x4_1).Name.Space) (b := ([117, 114, 110, 58, 105, 101, 116, 102, 58, 112, 97, 114, 97, 109, 115, 58, 120, 109, 108, 58, 110, 115, 58, 114, 108, 115, 45, 115, 101, 114, 118, 105, 99, 101, 115] : Str)) rfl rfl rfl rfl)))) ?_
        refine .cv (VOk.to (VOk.pickI (b := (((rd y1_4_6 x4_1).Kind) == 1)) (p := (((rd y1_4_6 x4_1).Name.Space) == ([117, 114, 110, 58, 105, 101, 116, 102, 58, 112, 97, 114, 97, 109, 115, 58, 120, 109, 108, 58, 110, 115, 58, 114, 108, 115, 45, 115, 101, 114, 118, 105, 99, 101, 115] : Str))) (q := false) rfl rfl (fun hp20 => (cT (t_beq hp20))) (fun hp20 => rfl)) (pickAnd (((rd y1_4_6 x4_1).Kind) == 1) (((rd y1_4_6 x4_1).Name.Space) == ([117, 114, 110, 58, 105, 101, 116, 102, 58, 112, 97, 114, 97, 109, 115, 58, 120, 109, 108, 58, 110, 115, 58, 114, 108, 115, 45, 115, 101, 114, 118, 105, 99, 101, 115] : Str)))) rfl rfl ?_
        refine .cv (VOk.mv (d := (.v (.bool ((((rd y1_4_6 x4_1).Kind) == 1) && (((rd y1_4_6 x4_1).Name.Space) == ([117, 114, 110, 58, 105, 101, 116, 102, 58, 112, 97, 114, 97, 109, 115, 58, 120, 109, 108, 58, 110, 115, 58, 114, 108, 115, 45, 115, 101, 114, 118, 105, 99, 101, 115] : Str)))))) rfl rfl) rfl rfl ?_
        refine OpsOk.consI rfl rfl rfl (.one rfl) rfl (fun hw21 => (VOk.g (VOk.to (d' := (.agg (e_api_Node (rd y1_4_6 x4_1)))) (.loadBAgg rfl Try.underlying27 rfl sz27 rfl rfl rfl) (congrArg D.agg (e_api_Node_c (rd y1_4_6 x4_1)).symm)))) ?_
        refine OpsOk.consI rfl rfl rfl (.one rfl) rfl (fun hw21 => (GOk.fr (fr' := [(28, (.agg (e_api_Node (rd y1_4_6 x4_1))))]) ⟨DLe.of_eq (cT hw21).symm, trivial⟩ (GOk.call rfl rfl cl28 rfl (watchbillref16_Is.ok (ifT h23 hw21)) rfl))) ?_
        refine .cv (VOk.to (VOk.pickI (b := ((((rd y1_4_6 x4_1).Kind) == 1) && (((rd y1_4_6 x4_1).Name.Space) == ([117, 114, 110, 58, 105, 101, 116, 102, 58, 112, 97, 114, 97, 109, 115, 58, 120, 109, 108, 58, 110, 115, 58, 114, 108, 115, 45, 115, 101, 114, 118, 105, 99, 101, 115] : Str)))) (p := true) (q := t22) rfl rfl (fun hp24 => rfl) (fun hp24 => (cT (f_beq hp24)))) (pickOr ((((rd y1_4_6 x4_1).Kind) == 1) && (((rd y1_4_6 x4_1).Name.Space) == ([117, 114, 110, 58, 105, 101, 116, 102, 58, 112, 97, 114, 97, 109, 115, 58, 120, 109, 108, 58, 110, 115, 58, 114, 108, 115, 45, 115, 101, 114, 118, 105, 99, 101, 115] : Str))) t22)) rfl rfl ?_
        exact .done (.rf rfl rfl)
      refine Ok.test (b := (((((rd y1_4_6 x4_1).Kind) == 1) && (((rd y1_4_6 x4_1).Name.Space) == ([117, 114, 110, 58, 105, 101, 116, 102, 58, 112, 97, 114, 97, 109, 115, 58, 120, 109, 108, 58, 110, 115, 58, 114, 108, 115, 45, 115, 101, 114, 118, 105, 99, 101, 115] : Str))) || t22)) rfl (fun hb26 => ?_) (fun hb26 => ?_)
      · replace H := ifT H hb26
        obtain ⟨c25, H⟩ := assertE H
        refine Ok.region (σ' := ⟨[(1, (.bref 1 0)), (3, (.sref 3)), (4, (.v (.int .i64 x4_1)))], [(1, (.box .ex [(.v (.int .i64 y1_0_2)), (S y1_1_3), (S y1_2_4), (L 3 e_api_Attr y1_3_5), (L 6 e_api_Node y1_4_6), (S y1_5_7)])), (3, (.rows true 27 6 ((y3_8 ++ ([(rd y1_4_6 x4_1)] : List T_api_Node)).map e_api_Node)))]⟩) ?_ ?_
        · refine .cv (VOk.mv (d := (.sref 3)) rfl rfl) rfl rfl ?_
          refine .cv (VOk.to (d' := (.agg (e_api_Node (rd y1_4_6 x4_1)))) (.loadBAgg rfl Try.underlying27 rfl sz27 rfl rfl rfl) (congrArg D.agg (e_api_Node_c (rd y1_4_6 x4_1)).symm)) rfl rfl ?_
          refine .cg (GOk.to (d' := (L 6 e_api_Node ([(rd y1_4_6 x4_1)] : List T_api_Node))) (GOk.lit rfl Try.underlying25 sz27 zs27 rfl rfl rfl rfl) rfl) rfl rfl ?_
          refine OpsOk.cons rfl (OpOk.appendL (e := e_api_Node) (xs := y3_8) (ys := ([(rd y1_4_6 x4_1)] : List T_api_Node)) rfl Try.underlying25 elt27 rfl rfl rfl c25 rfl) ?_
          refine .cv (VOk.asg (d := (.sref 3)) rfl rfl) rfl rfl ?_
          exact .done (.rf rfl rfl)
        refine Ok.region (σ' := ⟨[(1, (.bref 1 0)), (3, (.sref 3)), (4, (.v (.int .i64 (IntKind.i64.wrap (x4_1 + 1)))))], [(1, (.box .ex [(.v (.int .i64 y1_0_2)), (S y1_1_3), (S y1_2_4), (L 3 e_api_Attr y1_3_5), (L 6 e_api_Node y1_4_6), (S y1_5_7)])), (3, (.rows true 27 6 ((y3_8 ++ ([(rd y1_4_6 x4_1)] : List T_api_Node)).map e_api_Node)))]⟩) ?_ ?_
        · refine .cv (VOk.mv (d := (.v (.int .i64 x4_1))) rfl rfl) rfl rfl ?_
          refine .cv (VOk.arith (op := .add) (k := .i64) (a := x4_1) (b := 1) rfl rfl rfl rfl) rfl rfl ?_
          refine .cv (VOk.asg (d := (.v (.int .i64 (IntKind.i64.wrap (x4_1 + 1))))) rfl rfl) rfl rfl ?_
          exact .done (.rf rfl rfl)
        exact ⟨m17, Nat.lt_succ_self m17, y1_0_2, y1_1_3, y1_2_4, y1_3_5, y1_4_6, y1_5_7, (y3_8 ++ ([(rd y1_4_6 x4_1)] : List T_api_Node)), (IntKind.i64.wrap (x4_1 + 1)), rfl, H⟩
      · replace H := ifF H hb26
        refine Ok.skip ?_
        refine Ok.region (σ' := ⟨[(1, (.bref 1 0)), (3, (.sref 3)), (4, (.v (.int .i64 (IntKind.i64.wrap (x4_1 + 1)))))], [(1, (.box .ex [(.v (.int .i64 y1_0_2)), (S y1_1_3), (S y1_2_4), (L 3 e_api_Attr y1_3_5), (L 6 e_api_Node y1_4_6), (S y1_5_7)])), (3, (.rows true 27 6 (y3_8.map e_api_Node)))]⟩) ?_ ?_
        · refine .cv (VOk.mv (d := (.v (.int .i64 x4_1))) rfl rfl) rfl rfl ?_
          refine .cv (VOk.arith (op := .add) (k := .i64) (a := x4_1) (b := 1) rfl rfl rfl rfl) rfl rfl ?_
          refine .cv (VOk.asg (d := (.v (.int .i64 (IntKind.i64.wrap (x4_1 + 1))))) rfl rfl) rfl rfl ?_
          exact .done (.rf rfl rfl)
        exact ⟨m17, Nat.lt_succ_self m17, y1_0_2, y1_1_3, y1_2_4, y1_3_5, y1_4_6, y1_5_7, y3_8, (IntKind.i64.wrap (x4_1 + 1)), rfl, H⟩
    · replace H := ifF H hb27
      refine Ok.exit ?_
      refine Ok.seq ?_
      refine Ok.region (σ' := ⟨[(2, (.sref 3))], [(3, (.rows true 27 6 (y3_8.map e_api_Node)))]⟩) ?_ ?_
      · refine .cv (VOk.mv (d := (.sref 3)) rfl rfl) rfl rfl ?_
        refine .cv (VOk.asg (d := (.sref 3)) rfl rfl) rfl rfl ?_
        exact .done (.rf rfl rfl)
      refine Ok.frzL 3 (e := e_api_Node) (xs := y3_8) rfl ?_
      refine Ok.ret ?_
      obtain rfl := Option.some.inj H
      exact ⟨.inl rfl, ⟨_, (.cons (.tmp rfl) .nil), rfl⟩, trivial⟩

/-! watchbill/watchbillref04.Get: function 74 -/
def watchbillref04_Get.l0 (k : Nat) : Nat → Int → Str → Str → List T_api_Attr → List T_api_Node → Str → Str → Str → Int → Option (Str × Bool)
  | 0, _, _, _, _, _, _, _, _, _ => none
  | m19 + 1, y2_0_2, y2_1_3, y2_2_4, y2_3_5, y2_4_6, y2_5_7, y3_0_8, y3_1_9, x6_1 => (if (decide (x6_1 < (y2_3_5.length : Int))) = true then (if (0 : Int) ≤ x6_1 ∧ x6_1 < (y2_3_5.length : Int) then (if (((rd y2_3_5 x6_1).Name).Space == (T_api_Name.mk y3_0_8 y3_1_9).Space && (((rd y2_3_5 x6_1).Name).Local == (T_api_Name.mk y3_0_8 y3_1_9).Local && true)) = true then (if (0 : Int) ≤ x6_1 ∧ x6_1 < (y2_3_5.length : Int) then some ((rd y2_3_5 x6_1).Value, true) else none) else watchbillref04_Get.l0 k m19 y2_0_2 y2_1_3 y2_2_4 y2_3_5 y2_4_6 y2_5_7 y3_0_8 y3_1_9 (IntKind.i64.wrap (x6_1 + 1))) else none) else some (([] : Str), false))
def watchbillref04_Get (k : Nat) (a0 : T_api_Node) (a1 : T_api_Name) : Option (Str × Bool) := watchbillref04_Get.l0 k k a0.Kind a0.Name.Space a0.Name.Local a0.Attrs a0.Kids a0.Text a1.Space a1.Local 0
theorem watchbillref04_Get.ok {k : Nat} {a0 : T_api_Node} {a1 : T_api_Name} {r : Str × Bool} (H : watchbillref04_Get k a0 a1 = some r) : Vx.Fn Try.prog 74 [(.agg (e_api_Node a0)), (.agg (e_api_Name a1))] [] (.tup [(S r.1), (.v (.bool r.2))]) [] := by
  unfold watchbillref04_Get at H
  refine Vx.Fn.of_okR Try.func74 rfl (Nat.le_of_ble_eq_true rfl) ?_
  refine Ok.seq ?_
  refine Ok.region (σ' := ⟨[(2, (.bref 2 0)), (3, (.bref 3 0))], [(2, (.box .ex (c_api_Node a0))), (3, (.box .ex [(S a1.Space), (S a1.Local)]))]⟩) ?_ ?_
  · refine OpsOk.cut1 0 (.agg [(.v (.int .i64 a0.Kind)), (S a0.Name.Space), (S a0.Name.Local), (L 3 e_api_Attr a0.Attrs), (L 6 e_api_Node a0.Kids), (S a0.Text)]) (DLe.of_eq (congrArg D.agg (e_api_Node_c _).symm)) ?_
    refine OpsOk.cons rfl (OpOk.box 2 (cells := [(.v (.int .i64 a0.Kind)), (S a0.Name.Space), (S a0.Name.Local), (L 3 e_api_Attr a0.Attrs), (L 6 e_api_Node a0.Kids), (S a0.Text)]) rfl rfl rfl rfl) ?_
    refine OpsOk.cons rfl (OpOk.box 3 (cells := [(S a1.Space), (S a1.Local)]) rfl rfl rfl rfl) ?_
    refine .cv (VOk.asg (d := (S ([] : Str))) rfl rfl) rfl rfl ?_
    refine .cv (VOk.asg (d := (.v (.bool false))) rfl rfl) rfl rfl ?_
    exact .done (.rf rfl rfl)
  refine Ok.seq ?_
  refine Ok.seq ?_
  refine Ok.region (σ' := ⟨[(2, (.bref 2 0)), (3, (.bref 3 0)), (6, (.v (.int .i64 0)))], [(2, (.box .ex (c_api_Node a0))), (3, (.box .ex [(S a1.Space), (S a1.Local)]))]⟩) ?_ ?_
  · refine .cv (VOk.asg (d := (.v (.int .i64 0))) rfl rfl) rfl rfl ?_
    exact .done (.rf rfl rfl)
  refine Ok.block ?_
  refine Ok.le (σ' := ⟨[(2, (.bref 2 0)), (3, (.bref 3 0)), (6, (.v (.int .i64 0)))], [(2, (.box .ex (c_api_Node a0))), (3, (.box .ex [(S a1.Space), (S a1.Local)]))]⟩) (.rf rfl rfl) ?_
  refine Ok.loop (fun m19 σ => ∃ (y2_0_2 : Int) (y2_1_3 : Str) (y2_2_4 : Str) (y2_3_5 : List T_api_Attr) (y2_4_6 : List T_api_Node) (y2_5_7 : Str) (y3_0_8 : Str) (y3_1_9 : Str) (x6_1 : Int), σ = ⟨[(2, (.bref 2 0)), (3, (.bref 3 0)), (6, (.v (.int .i64 x6_1)))], [(2, (.box .ex [(.v (.int .i64 y2_0_2)), (S y2_1_3), (S y2_2_4), (L 3 e_api_Attr y2_3_5), (L 6 e_api_Node y2_4_6), (S y2_5_7)])), (3, (.box .ex [(S y3_0_8), (S y3_1_9)]))]⟩ ∧ watchbillref04_Get.l0 k m19 y2_0_2 y2_1_3 y2_2_4 y2_3_5 y2_4_6 y2_5_7 y3_0_8 y3_1_9 x6_1 = some r) k ⟨a0.Kind, a0.Name.Space, a0.Name.Local, a0.Attrs, a0.Kids, a0.Text, a1.Space, a1.Local, 0, rfl, H⟩ ?_
  rintro m19 σ ⟨y2_0_2, y2_1_3, y2_2_4, y2_3_5, y2_4_6, y2_5_7, y3_0_8, y3_1_9, x6_1, rfl, H⟩
  cases m19 with
  | zero => exact absurd H (by simp [watchbillref04_Get.l0])
  | succ m19 =>
    unfold watchbillref04_Get.l0 at H
    refine Ok.seq ?_
    refine Ok.seq ?_
    refine Ok.region (σ' := ⟨[(2, (.bref 2 0)), (3, (.bref 3 0)), (6, (.v (.int .i64 x6_1))), (11, (.v (.bool (decide (x6_1 < (y2_3_5.length : Int))))))], [(2, (.box .ex [(.v (.int .i64 y2_0_2)), (S y2_1_3), (S y2_2_4), (L 3 e_api_Attr y2_3_5), (L 6 e_api_Node y2_4_6), (S y2_5_7)])), (3, (.box .ex [(S y3_0_8), (S y3_1_9)]))]⟩) ?_ ?_
    · refine .cv (VOk.mv (d := (.v (.int .i64 x6_1))) rfl rfl) rfl rfl ?_
      refine .cv (VOk.to (VOk.fieldB rfl Try.underlying27 rfl sz24 rfl rfl) rfl) rfl rfl ?_
      refine .cv (VOk.loadB (d := (L 3 e_api_Attr y2_3_5)) rfl Try.underlying24 rfl rfl rfl rfl) rfl rfl ?_
      refine .cv (VOk.lenL (e := e_api_Attr) (xs := y2_3_5) rfl Try.underlying24 rfl) rfl rfl ?_
      refine .cv (VOk.arith (op := .lss) (k := .i64) (a := x6_1) (b := (y2_3_5.length : Int)) rfl rfl rfl rfl) rfl rfl ?_
      exact .done (.rf rfl rfl)
    refine Ok.test (b := (decide (x6_1 < (y2_3_5.length : Int)))) rfl (fun hb23 => ?_) (fun hb23 => ?_)
    · replace H := ifT H hb23
      refine Ok.skip ?_
      refine Ok.seq ?_
      refine Ok.block ?_
      refine Ok.seq ?_
      obtain ⟨c20, H⟩ := assertE H
      refine Ok.drawE (σ' := ⟨[(2, (.bref 2 0)), (3, (.bref 3 0)), (6, (.v (.int .i64 x6_1))), (21, (.v (.bool (((rd y2_3_5 x6_1).Name).Space == (T_api_Name.mk y3_0_8 y3_1_9).Space && (((rd y2_3_5 x6_1).Name).Local == (T_api_Name.mk y3_0_8 y3_1_9).Local && true)))))], [(2, (.box .ex [(.v (.int .i64 y2_0_2)), (S y2_1_3), (S y2_2_4), (L 3 e_api_Attr y2_3_5), (L 6 e_api_Node y2_4_6), (S y2_5_7)])), (3, (.box .ex [(S y3_0_8), (S y3_1_9)]))]⟩) [⟨true, [(2, (.bref 2 0))], (.bref 2 3)⟩, ⟨true, [(14, (.bref 2 3))], (L 3 e_api_Attr y2_3_5)⟩, ⟨true, [(6, (.v (.int .i64 x6_1)))], (.v (.int .i64 x6_1))⟩, ⟨true, [(15, (L 3 e_api_Attr y2_3_5)), (16, (.v (.int .i64 x6_1)))], (.fp (e_api_Attr (rd y2_3_5 x6_1)) 0)⟩, ⟨true, [(17, (.fp (e_api_Attr (rd y2_3_5 x6_1)) 0))], (.fp (e_api_Attr (rd y2_3_5 x6_1)) 0)⟩, ⟨true, [(18, (.fp (e_api_Attr (rd y2_3_5 x6_1)) 0))], (.agg (e_api_Name ((rd y2_3_5 x6_1).Name)))⟩, ⟨true, [(3, (.bref 3 0))], (.agg (e_api_Name (T_api_Name.mk y3_0_8 y3_1_9)))⟩, ⟨true, [(19, (.agg (e_api_Name ((rd y2_3_5 x6_1).Name)))), (20, (.agg (e_api_Name (T_api_Name.mk y3_0_8 y3_1_9))))], (.v (.bool (((rd y2_3_5 x6_1).Name).Space == (T_api_Name.mk y3_0_8 y3_1_9).Space && (((rd y2_3_5 x6_1).Name).Local == (T_api_Name.mk y3_0_8 y3_1_9).Local && true))))⟩] [[], [0], [], [1, 2], [3], [4], [], [5, 6]] mixed (by kernel_rfl) ?_ ?_
      · refine TxtE.cons rfl ⟨.same _, trivial⟩ rfl (VOk.g (VOk.to (VOk.fieldB rfl Try.underlying27 rfl sz24 rfl rfl) rfl)) ?_
        refine TxtE.cons rfl ⟨.same _, trivial⟩ rfl (VOk.g (VOk.loadB (d := (L 3 e_api_Attr y2_3_5)) rfl Try.underlying24 rfl rfl rfl rfl)) ?_
        refine TxtE.cons rfl ⟨.same _, trivial⟩ rfl (VOk.g (VOk.mv (d := (.v (.int .i64 x6_1))) rfl rfl)) ?_
        refine TxtE.cons rfl ⟨.same _, .same _, trivial⟩ rfl (VOk.g (VOk.indexL (sz := 3) (e := e_api_Attr) (xs := y2_3_5) (i := x6_1) rfl Try.underlying24 sz75 rfl rfl c20)) ?_
        refine TxtE.cons rfl ⟨.same _, trivial⟩ rfl (VOk.g (VOk.to (VOk.fieldFp rfl Try.underlying75 rfl sz23 rfl) rfl)) ?_
        refine TxtE.cons rfl ⟨.same _, trivial⟩ rfl (VOk.g (VOk.to (d' := (.agg (e_api_Name ((rd y2_3_5 x6_1).Name)))) (.loadFpAgg rfl Try.underlying23 rfl sz23 rfl rfl) rfl)) ?_
        refine TxtE.cons rfl ⟨.same _, trivial⟩ rfl (VOk.g (VOk.to (d' := (.agg (e_api_Name (T_api_Name.mk y3_0_8 y3_1_9)))) (.loadBAgg rfl Try.underlying23 rfl sz23 rfl rfl rfl) rfl)) ?_
        refine TxtE.cons rfl ⟨.same _, .same _, trivial⟩ rfl (VOk.g (VOk.eqS' (op := .eql) (d := (.v (.bool (((rd y2_3_5 x6_1).Name).Space == (T_api_Name.mk y3_0_8 y3_1_9).Space && (((rd y2_3_5 x6_1).Name).Local == (T_api_Name.mk y3_0_8 y3_1_9).Local && true))))) rfl (.inl rfl) (eqt23 9998) ag23 eg23 rfl rfl rfl rfl)) ?_
        exact .done (.rf rfl rfl)
      refine Ok.test (b := (((rd y2_3_5 x6_1).Name).Space == (T_api_Name.mk y3_0_8 y3_1_9).Space && (((rd y2_3_5 x6_1).Name).Local == (T_api_Name.mk y3_0_8 y3_1_9).Local && true))) rfl (fun hb22 => ?_) (fun hb22 => ?_)
      · replace H := ifT H hb22
        refine Ok.seq ?_
        obtain ⟨c21, H⟩ := assertE H
        refine Ok.region (σ' := ⟨[(4, (S ((rd y2_3_5 x6_1).Value))), (5, (.v (.bool true)))], []⟩) ?_ ?_
        · refine .cv (VOk.to (VOk.fieldB rfl Try.underlying27 rfl sz24 rfl rfl) rfl) rfl rfl ?_
          refine .cv (VOk.loadB (d := (L 3 e_api_Attr y2_3_5)) rfl Try.underlying24 rfl rfl rfl rfl) rfl rfl ?_
          refine .cv (VOk.mv (d := (.v (.int .i64 x6_1))) rfl rfl) rfl rfl ?_
          refine .cv (VOk.indexL (sz := 3) (e := e_api_Attr) (xs := y2_3_5) (i := x6_1) rfl Try.underlying24 sz75 rfl rfl c21) rfl rfl ?_
          refine .cv (VOk.to (VOk.fieldFp rfl Try.underlying75 rfl sz9 rfl) rfl) rfl rfl ?_
          refine .cv (VOk.loadFp (d := (S ((rd y2_3_5 x6_1).Value))) rfl Try.underlying9 rfl rfl rfl) rfl rfl ?_
          refine .cv (VOk.asg (d := (S ((rd y2_3_5 x6_1).Value))) rfl rfl) rfl rfl ?_
          refine .cv (VOk.asg (d := (.v (.bool true))) rfl rfl) rfl rfl ?_
          exact .done (.rf rfl rfl)
        refine Ok.ret ?_
        obtain rfl := Option.some.inj H
        exact ⟨.inl rfl, ⟨_, (.cons (.tmp rfl) (.cons (.tmp rfl) .nil)), rfl⟩, trivial⟩
      · replace H := ifF H hb22
        refine Ok.skip ?_
        refine Ok.region (σ' := ⟨[(2, (.bref 2 0)), (3, (.bref 3 0)), (6, (.v (.int .i64 (IntKind.i64.wrap (x6_1 + 1)))))], [(2, (.box .ex [(.v (.int .i64 y2_0_2)), (S y2_1_3), (S y2_2_4), (L 3 e_api_Attr y2_3_5), (L 6 e_api_Node y2_4_6), (S y2_5_7)])), (3, (.box .ex [(S y3_0_8), (S y3_1_9)]))]⟩) ?_ ?_
        · refine .cv (VOk.mv (d := (.v (.int .i64 x6_1))) rfl rfl) rfl rfl ?_
          refine .cv (VOk.arith (op := .add) (k := .i64) (a := x6_1) (b := 1) rfl rfl rfl rfl) rfl rfl ?_
          refine .cv (VOk.asg (d := (.v (.int .i64 (IntKind.i64.wrap (x6_1 + 1))))) rfl rfl) rfl rfl ?_
          exact .done (.rf rfl rfl)
        exact ⟨m19, Nat.lt_succ_self m19, y2_0_2, y2_1_3, y2_2_4, y2_3_5, y2_4_6, y2_5_7, y3_0_8, y3_1_9, (IntKind.i64.wrap (x6_1 + 1)), rfl, H⟩
    · replace H := ifF H hb23
      refine Ok.exit ?_
      refine Ok.seq ?_
      refine Ok.region (σ' := ⟨[(4, (S ([] : Str))), (5, (.v (.bool false)))], []⟩) ?_ ?_
      · refine .cv (VOk.asg (d := (S ([] : Str))) rfl rfl) rfl rfl ?_
        refine .cv (VOk.asg (d := (.v (.bool false))) rfl rfl) rfl rfl ?_
        exact .done (.rf rfl rfl)
      refine Ok.ret ?_
      obtain rfl := Option.some.inj H
      exact ⟨.inl rfl, ⟨_, (.cons (.tmp rfl) (.cons (.tmp rfl) .nil)), rfl⟩, trivial⟩

/-! watchbill/watchbillref16.Attr: function 55 -/
def watchbillref16_Attr (k : Nat) (a0 : T_api_Node) (a1 : Str) : Option Str := ((watchbillref04_Get k a0 (T_api_Name.mk ([] : Str) a1)).bind fun (t1 : Str × Bool) => some t1.1)
theorem watchbillref16_Attr.ok {k : Nat} {a0 : T_api_Node} {a1 : Str} {r : Str} (H : watchbillref16_Attr k a0 a1 = some r) : Vx.Fn Try.prog 55 [(.agg (e_api_Node a0)), (S a1)] [] (S r) [] := by
  unfold watchbillref16_Attr at H
  refine Vx.Fn.of_okR Try.func55 rfl (Nat.le_of_ble_eq_true rfl) ?_
  refine Ok.seq ?_
  refine Ok.region (σ' := ⟨[(1, (S a1)), (2, (.bref 2 0))], [(2, (.box .ex (c_api_Node a0)))]⟩) ?_ ?_
  · refine OpsOk.cut1 0 (.agg [(.v (.int .i64 a0.Kind)), (S a0.Name.Space), (S a0.Name.Local), (L 3 e_api_Attr a0.Attrs), (L 6 e_api_Node a0.Kids), (S a0.Text)]) (DLe.of_eq (congrArg D.agg (e_api_Node_c _).symm)) ?_
    refine OpsOk.cons rfl (OpOk.box 2 (cells := [(.v (.int .i64 a0.Kind)), (S a0.Name.Space), (S a0.Name.Local), (L 3 e_api_Attr a0.Attrs), (L 6 e_api_Node a0.Kids), (S a0.Text)]) rfl rfl rfl rfl) ?_
    refine .cv (VOk.asg (d := (S ([] : Str))) rfl rfl) rfl rfl ?_
    exact .done (.rf rfl rfl)
  refine Ok.seq ?_
  obtain ⟨t1, h2, H⟩ := bindE H
  refine Ok.region (σ' := ⟨[(5, (S t1.1))], []⟩) ?_ ?_
  · refine .cv (VOk.to (d' := (.agg (e_api_Node a0))) (.loadBAgg rfl Try.underlying27 rfl sz27 rfl rfl rfl) (congrArg D.agg (e_api_Node_c a0).symm)) rfl rfl ?_
    refine .cv (VOk.mv (d := (S a1)) rfl rfl) rfl rfl ?_
    refine .cv (VOk.to (d' := (.agg (e_api_Name (T_api_Name.mk ([] : Str) a1)))) (.build [none, none] [(0, 1), (1, 1)] rfl Try.underlying23 (fa23 Try.underlying23) zo23 rfl rfl) rfl) rfl rfl ?_
    refine .cg (GOk.call rfl rfl cl74 rfl (watchbillref04_Get.ok h2) rfl) rfl rfl ?_
    refine .cv (VOk.mv (d := (.tup [(S t1.1), (.v (.bool t1.2))])) rfl rfl) rfl rfl ?_
    refine .cv (VOk.extract (d := (S t1.1)) rfl rfl rfl) rfl rfl ?_
    refine .cv (VOk.extract (d := (.v (.bool t1.2))) rfl rfl rfl) rfl rfl ?_
    refine .cv (VOk.asg (d := (S t1.1)) rfl rfl) rfl rfl ?_
    refine .cv (VOk.asg (d := (.v (.bool t1.2))) rfl rfl) rfl rfl ?_
    exact .done (.rf rfl rfl)
  refine Ok.seq ?_
  refine Ok.region (σ' := ⟨[(4, (S t1.1))], []⟩) ?_ ?_
  · refine .cv (VOk.mv (d := (S t1.1)) rfl rfl) rfl rfl ?_
    refine .cv (VOk.asg (d := (S t1.1)) rfl rfl) rfl rfl ?_
    exact .done (.rf rfl rfl)
  refine Ok.ret ?_
  obtain rfl := Option.some.inj H
  exact ⟨.inl rfl, ⟨_, (.cons (.tmp rfl) .nil), rfl⟩, trivial⟩

/-! watchbill/watchbillref16.display: function 75 -/
def watchbillref16_display (k : Nat) (a0 : T_api_Node) : Option Bool := ((watchbillref16_Is a0 ([117, 114, 110, 58, 105, 101, 116, 102, 58, 112, 97, 114, 97, 109, 115, 58, 120, 109, 108, 58, 110, 115, 58, 114, 101, 115, 111, 117, 114, 99, 101, 45, 108, 105, 115, 116, 115] : Str) ([100, 105, 115, 112, 108, 97, 121, 45, 110, 97, 109, 101] : Str)).bind fun (t1 : Bool) => (((if (t1 == true) = true then watchbillref16_Kids k a0 ([117, 114, 110, 58, 105, 101, 116, 102, 58, 112, 97, 114, 97, 109, 115, 58, 120, 109, 108, 58, 110, 115, 58, 114, 101, 115, 111, 117, 114, 99, 101, 45, 108, 105, 115, 116, 115] : Str) else some default)).bind fun (t4 : (List T_api_Node)) => some (t1 && ((t4.length : Int) == 0))))
theorem watchbillref16_display.ok {k : Nat} {a0 : T_api_Node} {r : Bool} (H : watchbillref16_display k a0 = some r) : Vx.Fn Try.prog 75 [(.agg (e_api_Node a0))] [] (.v (.bool r)) [] := by
  unfold watchbillref16_display at H
  refine Vx.Fn.of_okR Try.func75 rfl (Nat.le_of_ble_eq_true rfl) ?_
  refine Ok.seq ?_
  refine Ok.region (σ' := ⟨[(1, (.bref 1 0))], [(1, (.box .ex (c_api_Node a0)))]⟩) ?_ ?_
  · refine OpsOk.cut1 0 (.agg [(.v (.int .i64 a0.Kind)), (S a0.Name.Space), (S a0.Name.Local), (L 3 e_api_Attr a0.Attrs), (L 6 e_api_Node a0.Kids), (S a0.Text)]) (DLe.of_eq (congrArg D.agg (e_api_Node_c _).symm)) ?_
    refine OpsOk.cons rfl (OpOk.box 1 (cells := [(.v (.int .i64 a0.Kind)), (S a0.Name.Space), (S a0.Name.Local), (L 3 e_api_Attr a0.Attrs), (L 6 e_api_Node a0.Kids), (S a0.Text)]) rfl rfl rfl rfl) ?_
    refine .cv (VOk.asg (d := (.v (.bool false))) rfl rfl) rfl rfl ?_
    exact .done (.rf rfl rfl)
  refine Ok.seq ?_
  obtain ⟨t1, h2, H⟩ := bindE H
  obtain ⟨t4, h5, H⟩ := bindE H
  refine Ok.region (σ' := ⟨[(2, (.v (.bool (t1 && ((t4.length : Int) == 0)))))], []⟩) ?_ ?_
  · refine .cv (VOk.to (d' := (.agg (e_api_Node a0))) (.loadBAgg rfl Try.underlying27 rfl sz27 rfl rfl rfl) (congrArg D.agg (e_api_Node_c a0).symm)) rfl rfl ?_
    refine .cg (GOk.call rfl rfl cl28 rfl (watchbillref16_Is.ok h2) rfl) rfl rfl ?_
    refine .cv (VOk.mv (d := (.v (.bool t1))) rfl rfl) rfl rfl ?_
    refine OpsOk.consI rfl rfl rfl (.one rfl) rfl (fun hw3 => (VOk.g (VOk.to (d' := (.agg (e_api_Node a0))) (.loadBAgg rfl Try.underlying27 rfl sz27 rfl rfl rfl) (congrArg D.agg (e_api_Node_c a0).symm)))) ?_
    refine OpsOk.consI rfl rfl rfl (.one rfl) rfl (fun hw3 => (GOk.fr (fr' := [(6, (.agg (e_api_Node a0)))]) ⟨DLe.of_eq (cT hw3).symm, trivial⟩ (GOk.call rfl rfl cl30 rfl (watchbillref16_Kids.ok (ifT h5 hw3)) rfl))) ?_
    refine OpsOk.consI rfl rfl rfl (.one rfl) rfl (fun hw3 => (GOk.fr (fr' := [(7, (L 6 e_api_Node t4))]) ⟨DLe.of_eq (cT hw3).symm, trivial⟩ (VOk.g (VOk.lenL (e := e_api_Node) (xs := t4) rfl Try.underlying25 rfl)))) ?_
    refine OpsOk.consI rfl rfl rfl (.one rfl) rfl (fun hw3 => (GOk.fr (fr' := [(8, (.v (.int .i64 (t4.length : Int))))]) ⟨DLe.of_eq (cT hw3).symm, trivial⟩ (VOk.g (VOk.arith (op := .eql) (k := .i64) (a := (t4.length : Int)) (b := 0) rfl rfl rfl rfl)))) ?_
    refine .cv (VOk.to (VOk.pickI (b := t1) (p := ((t4.length : Int) == 0)) (q := false) rfl rfl (fun hp6 => (cT (t_beq hp6))) (fun hp6 => rfl)) (pickAnd t1 ((t4.length : Int) == 0))) rfl rfl ?_
    refine .cv (VOk.asg (d := (.v (.bool (t1 && ((t4.length : Int) == 0))))) rfl rfl) rfl rfl ?_
    exact .done (.rf rfl rfl)
  refine Ok.ret ?_
  obtain rfl := Option.some.inj H
  exact ⟨.inl rfl, ⟨_, (.cons (.tmp rfl) .nil), rfl⟩, trivial⟩

/-! watchbill/watchbillref16.Valid: function 56 -/
def watchbillref16_Valid.l0 (k : Nat) (self : T_api_Node → Option Bool) (t7 : (List T_api_Node)) : Nat → Int → Option Bool
  | 0, _ => none
  | m11 + 1, x4_9 => (if (decide (x4_9 < (t7.length : Int))) = true then (if (0 : Int) ≤ x4_9 ∧ x4_9 < (t7.length : Int) then (((if ((x4_9 == 0) == true) = true then watchbillref16_display k (rd t7 x4_9) else some default)).bind fun (t14 : Bool) => (if ((x4_9 == 0) && t14) = true then watchbillref16_Valid.l0 k self t7 m11 (IntKind.i64.wrap (x4_9 + 1)) else ((watchbillref16_Is (rd t7 x4_9) ([117, 114, 110, 58, 105, 101, 116, 102, 58, 112, 97, 114, 97, 109, 115, 58, 120, 109, 108, 58, 110, 115, 58, 114, 101, 115, 111, 117, 114, 99, 101, 45, 108, 105, 115, 116, 115] : Str) ([108, 105, 115, 116] : Str)).bind fun (t17 : Bool) => (if t17 = true then ((self (rd t7 x4_9)).bind fun (t19 : Bool) => (if (!t19) = true then some false else watchbillref16_Valid.l0 k self t7 m11 (IntKind.i64.wrap (x4_9 + 1)))) else ((watchbillref16_Kids k (rd t7 x4_9) ([117, 114, 110, 58, 105, 101, 116, 102, 58, 112, 97, 114, 97, 109, 115, 58, 120, 109, 108, 58, 110, 115, 58, 114, 101, 115, 111, 117, 114, 99, 101, 45, 108, 105, 115, 116, 115] : Str)).bind fun (t22 : (List T_api_Node)) => ((watchbillref16_Blank k (rd t7 x4_9)).bind fun (t24 : Bool) => (if (((((!t24) || (decide ((t22.length : Int) > 1))) == false) && (((t22.length : Int) == 1) == true)) = true → (0 : Int) ≤ 0 ∧ 0 < (t22.length : Int)) then (((if ((((!t24) || (decide ((t22.length : Int) > 1))) == false) && (((t22.length : Int) == 1) == true)) = true then watchbillref16_display k (rd t22 0) else some default)).bind fun (t31 : Bool) => (if (((!t24) || (decide ((t22.length : Int) > 1))) || (((t22.length : Int) == 1) && (!t31))) = true then some false else ((watchbillref16_Is (rd t7 x4_9) ([117, 114, 110, 58, 105, 101, 116, 102, 58, 112, 97, 114, 97, 109, 115, 58, 120, 109, 108, 58, 110, 115, 58, 114, 101, 115, 111, 117, 114, 99, 101, 45, 108, 105, 115, 116, 115] : Str) ([101, 110, 116, 114, 121] : Str)).bind fun (t35 : Bool) => (((if (t35 == true) = true then watchbillref16_Attr k (rd t7 x4_9) ([117, 114, 105] : Str) else some default)).bind fun (t38 : Str) => (((if ((t35 && (!(t38 == ([] : Str)))) == false) = true then watchbillref16_Is (rd t7 x4_9) ([117, 114, 110, 58, 105, 101, 116, 102, 58, 112, 97, 114, 97, 109, 115, 58, 120, 109, 108, 58, 110, 115, 58, 114, 101, 115, 111, 117, 114, 99, 101, 45, 108, 105, 115, 116, 115] : Str) ([101, 120, 116, 101, 114, 110, 97, 108] : Str) else some default)).bind fun (t42 : Bool) => (((if (((t35 && (!(t38 == ([] : Str)))) == false) && (t42 == true)) = true then watchbillref16_Attr k (rd t7 x4_9) ([97, 110, 99, 104, 111, 114] : Str) else some default)).bind fun (t45 : Str) => (((if (((t35 && (!(t38 == ([] : Str)))) || (t42 && (!(t45 == ([] : Str))))) == false) = true then watchbillref16_Is (rd t7 x4_9) ([117, 114, 110, 58, 105, 101, 116, 102, 58, 112, 97, 114, 97, 109, 115, 58, 120, 109, 108, 58, 110, 115, 58, 114, 101, 115, 111, 117, 114, 99, 101, 45, 108, 105, 115, 116, 115] : Str) ([101, 110, 116, 114, 121, 45, 114, 101, 102] : Str) else some default)).bind fun (t50 : Bool) => (((if ((((t35 && (!(t38 == ([] : Str)))) || (t42 && (!(t45 == ([] : Str))))) == false) && (t50 == true)) = true then watchbillref16_Attr k (rd t7 x4_9) ([114, 101, 102] : Str) else some default)).bind fun (t53 : Str) => (if (!(((t35 && (!(t38 == ([] : Str)))) || (t42 && (!(t45 == ([] : Str))))) || (t50 && (!(t53 == ([] : Str)))))) = true then some false else watchbillref16_Valid.l0 k self t7 m11 (IntKind.i64.wrap (x4_9 + 1))))))))))) else none))))))) else none) else some true)
def watchbillref16_Valid : Nat → T_api_Node → Option Bool
  | 0, _ => none
  | k + 1, a0 => ((watchbillref16_Is a0 ([117, 114, 110, 58, 105, 101, 116, 102, 58, 112, 97, 114, 97, 109, 115, 58, 120, 109, 108, 58, 110, 115, 58, 114, 101, 115, 111, 117, 114, 99, 101, 45, 108, 105, 115, 116, 115] : Str) ([108, 105, 115, 116] : Str)).bind fun (t1 : Bool) => (((if ((!t1) == false) = true then watchbillref16_Blank k a0 else some default)).bind fun (t4 : Bool) => (if ((!t1) || (!t4)) = true then some false else ((watchbillref16_Kids k a0 ([117, 114, 110, 58, 105, 101, 116, 102, 58, 112, 97, 114, 97, 109, 115, 58, 120, 109, 108, 58, 110, 115, 58, 114, 101, 115, 111, 117, 114, 99, 101, 45, 108, 105, 115, 116, 115] : Str)).bind fun (t7 : (List T_api_Node)) => watchbillref16_Valid.l0 k (watchbillref16_Valid k) t7 k 0))))
theorem watchbillref16_Valid.ok {k : Nat} {a0 : T_api_Node} {r : Bool} (H : watchbillref16_Valid k a0 = some r) : Vx.Fn Try.prog 56 [(.agg (e_api_Node a0))] [] (.v (.bool r)) [] := by
  induction k generalizing a0 r with
  | zero => exact absurd H (by simp [watchbillref16_Valid])
  | succ k ih =>
    unfold watchbillref16_Valid at H
    refine Vx.Fn.of_okR Try.func56 rfl (Nat.le_of_ble_eq_true rfl) ?_
    refine Ok.seq ?_
    refine Ok.region (σ' := ⟨[(1, (.bref 1 0))], [(1, (.box .ex (c_api_Node a0)))]⟩) ?_ ?_
    · refine OpsOk.cut1 0 (.agg [(.v (.int .i64 a0.Kind)), (S a0.Name.Space), (S a0.Name.Local), (L 3 e_api_Attr a0.Attrs), (L 6 e_api_Node a0.Kids), (S a0.Text)]) (DLe.of_eq (congrArg D.agg (e_api_Node_c _).symm)) ?_
      refine OpsOk.cons rfl (OpOk.box 1 (cells := [(.v (.int .i64 a0.Kind)), (S a0.Name.Space), (S a0.Name.Local), (L 3 e_api_Attr a0.Attrs), (L 6 e_api_Node a0.Kids), (S a0.Text)]) rfl rfl rfl rfl) ?_
      refine .cv (VOk.asg (d := (.v (.bool false))) rfl rfl) rfl rfl ?_
      exact .done (.rf rfl rfl)
    refine Ok.seq ?_
    refine Ok.seq ?_
    obtain ⟨t1, h2, H⟩ := bindE H
    obtain ⟨t4, h5, H⟩ := bindE H
    refine Ok.region (σ' := ⟨[(1, (.bref 1 0)), (15, (.v (.bool ((!t1) || (!t4)))))], [(1, (.box .ex (c_api_Node a0)))]⟩) ?_ ?_
    · refine .cv (VOk.to (d' := (.agg (e_api_Node a0))) (.loadBAgg rfl Try.underlying27 rfl sz27 rfl rfl rfl) (congrArg D.agg (e_api_Node_c a0).symm)) rfl rfl ?_
      refine .cg (GOk.call rfl rfl cl28 rfl (watchbillref16_Is.ok h2) rfl) rfl rfl ?_
      refine .cv (VOk.not (b := t1) rfl rfl) rfl rfl ?_
      refine .cv (VOk.mv (d := (.v (.bool (!t1)))) rfl rfl) rfl rfl ?_
      refine OpsOk.consI rfl rfl rfl (.one rfl) rfl (fun hw3 => (VOk.g (VOk.to (d' := (.agg (e_api_Node a0))) (.loadBAgg rfl Try.underlying27 rfl sz27 rfl rfl rfl) (congrArg D.agg (e_api_Node_c a0).symm)))) ?_
      refine OpsOk.consI rfl rfl rfl (.one rfl) rfl (fun hw3 => (GOk.fr (fr' := [(12, (.agg (e_api_Node a0)))]) ⟨DLe.of_eq (cT hw3).symm, trivial⟩ (GOk.call rfl rfl cl29 rfl (watchbillref16_Blank.ok (ifT h5 hw3)) rfl))) ?_
      refine OpsOk.consI rfl rfl rfl (.one rfl) rfl (fun hw3 => (GOk.fr (fr' := [(13, (.v (.bool t4)))]) ⟨DLe.of_eq (cT hw3).symm, trivial⟩ (VOk.g (VOk.not (b := t4) rfl rfl)))) ?_
      refine .cv (VOk.to (VOk.pickI (b := (!t1)) (p := true) (q := (!t4)) rfl rfl (fun hp6 => rfl) (fun hp6 => (cT (f_beq hp6)))) (pickOr (!t1) (!t4))) rfl rfl ?_
      exact .done (.rf rfl rfl)
    refine Ok.test (b := ((!t1) || (!t4))) rfl (fun hb62 => ?_) (fun hb62 => ?_)
    · replace H := ifT H hb62
      refine Ok.seq ?_
      refine Ok.region (σ' := ⟨[(2, (.v (.bool false)))], []⟩) ?_ ?_
      · refine .cv (VOk.asg (d := (.v (.bool false))) rfl rfl) rfl rfl ?_
        exact .done (.rf rfl rfl)
      refine Ok.ret ?_
      obtain rfl := Option.some.inj H
      exact ⟨.inl rfl, ⟨_, (.cons (.tmp rfl) .nil), rfl⟩, trivial⟩
    · replace H := ifF H hb62
      refine Ok.skip ?_
      refine Ok.seq ?_
      obtain ⟨t7, h8, H⟩ := bindE H
      refine Ok.region (σ' := ⟨[(3, (L 6 e_api_Node t7))], []⟩) ?_ ?_
      · refine .cv (VOk.to (d' := (.agg (e_api_Node a0))) (.loadBAgg rfl Try.underlying27 rfl sz27 rfl rfl rfl) (congrArg D.agg (e_api_Node_c a0).symm)) rfl rfl ?_
        refine .cg (GOk.call rfl rfl cl30 rfl (watchbillref16_Kids.ok h8) rfl) rfl rfl ?_
        refine .cv (VOk.asg (d := (L 6 e_api_Node t7)) rfl rfl) rfl rfl ?_
        exact .done (.rf rfl rfl)
      refine Ok.seq ?_
      refine Ok.seq ?_
      refine Ok.region (σ' := ⟨[(3, (L 6 e_api_Node t7)), (4, (.v (.int .i64 0)))], []⟩) ?_ ?_
      · refine .cv (VOk.asg (d := (.v (.int .i64 0))) rfl rfl) rfl rfl ?_
        exact .done (.rf rfl rfl)
      refine Ok.block ?_
      refine Ok.le (σ' := ⟨[(3, (L 6 e_api_Node t7)), (4, (.v (.int .i64 0)))], []⟩) (.rf rfl rfl) ?_
      refine Ok.loop (fun m11 σ => ∃ (x4_9 : Int), σ = ⟨[(3, (L 6 e_api_Node t7)), (4, (.v (.int .i64 x4_9)))], []⟩ ∧ watchbillref16_Valid.l0 k (watchbillref16_Valid k) t7 m11 x4_9 = some r) k ⟨0, rfl, H⟩ ?_
      rintro m11 σ ⟨x4_9, rfl, H⟩
      cases m11 with
      | zero => exact absurd H (by simp [watchbillref16_Valid.l0])
      | succ m11 =>
        unfold watchbillref16_Valid.l0 at H
        refine Ok.seq ?_
        refine Ok.seq ?_
        refine Ok.region (σ' := ⟨[(3, (L 6 e_api_Node t7)), (4, (.v (.int .i64 x4_9))), (21, (.v (.bool (decide (x4_9 < (t7.length : Int))))))], []⟩) ?_ ?_
        · refine .cv (VOk.mv (d := (.v (.int .i64 x4_9))) rfl rfl) rfl rfl ?_
          refine .cv (VOk.mv (d := (L 6 e_api_Node t7)) rfl rfl) rfl rfl ?_
          refine .cv (VOk.lenL (e := e_api_Node) (xs := t7) rfl Try.underlying25 rfl) rfl rfl ?_
          refine .cv (VOk.arith (op := .lss) (k := .i64) (a := x4_9) (b := (t7.length : Int)) rfl rfl rfl rfl) rfl rfl ?_
          exact .done (.rf rfl rfl)
        refine Ok.test (b := (decide (x4_9 < (t7.length : Int)))) rfl (fun hb61 => ?_) (fun hb61 => ?_)
        · replace H := ifT H hb61
          refine Ok.skip ?_
          refine Ok.seq ?_
          refine Ok.block ?_
          refine Ok.seq ?_
          obtain ⟨c12, H⟩ := assertE H
          refine Ok.region (σ' := ⟨[(3, (L 6 e_api_Node t7)), (4, (.v (.int .i64 x4_9))), (5, (.bref 5 0))], [(5, (.box .ex (c_api_Node (rd t7 x4_9))))]⟩) ?_ ?_
          · refine .cv (VOk.mv (d := (L 6 e_api_Node t7)) rfl rfl) rfl rfl ?_
            refine .cv (VOk.mv (d := (.v (.int .i64 x4_9))) rfl rfl) rfl rfl ?_
            refine .cv (VOk.indexL (sz := 6) (e := e_api_Node) (xs := t7) (i := x4_9) rfl Try.underlying25 sz27 rfl rfl c12) rfl rfl ?_
            refine .cv (VOk.to (d' := (.agg (e_api_Node (rd t7 x4_9)))) (.loadFpAgg rfl Try.underlying27 rfl sz27 rfl rfl) rfl) rfl rfl ?_
            refine OpsOk.cons rfl (OpOk.alloc 5 [none, none, none, some 3, some 6, none] rfl zo27 rfl rfl) ?_
            refine OpsOk.cut1 27 (.agg [(.v (.int .i64 ((rd t7 x4_9).Kind))), (S ((rd t7 x4_9).Name.Space)), (S ((rd t7 x4_9).Name.Local)), (L 3 e_api_Attr ((rd t7 x4_9).Attrs)), (L 6 e_api_Node ((rd t7 x4_9).Kids)), (S ((rd t7 x4_9).Text))]) (DLe.of_eq (congrArg D.agg (e_api_Node_c _).symm)) ?_
            refine OpsOk.cons rfl (OpOk.to (σ2 := St.put ⟨_, (5, (.box .ex (c_api_Node (rd t7 x4_9)))) :: _⟩ _ .junk) (.storeB rfl sz27 rfl rfl rfl rfl rfl rfl) rfl) ?_
            exact .done (.rf rfl rfl)
          refine Ok.seq ?_
          refine Ok.seq ?_
          obtain ⟨t14, h15, H⟩ := bindE H
          refine Ok.region (σ' := ⟨[(3, (L 6 e_api_Node t7)), (4, (.v (.int .i64 x4_9))), (5, (.bref 5 0)), (33, (.v (.bool ((x4_9 == 0) && t14))))], [(5, (.box .ex (c_api_Node (rd t7 x4_9))))]⟩) ?_ ?_
          · refine .cv (VOk.mv (d := (.v (.int .i64 x4_9))) rfl rfl) rfl rfl ?_
            refine .cv (VOk.arith (op := .eql) (k := .i64) (a := x4_9) (b := 0) rfl rfl rfl rfl) rfl rfl ?_
            refine .cv (VOk.mv (d := (.v (.bool (x4_9 == 0)))) rfl rfl) rfl rfl ?_
            refine OpsOk.consI rfl rfl rfl (.one rfl) rfl (fun hw13 => (VOk.g (VOk.to (d' := (.agg (e_api_Node (rd t7 x4_9)))) (.loadBAgg rfl Try.underlying27 rfl sz27 rfl rfl rfl) (congrArg D.agg (e_api_Node_c (rd t7 x4_9)).symm)))) ?_
            refine OpsOk.consI rfl rfl rfl (.one rfl) rfl (fun hw13 => (GOk.fr (fr' := [(31, (.agg (e_api_Node (rd t7 x4_9))))]) ⟨DLe.of_eq (cT hw13).symm, trivial⟩ (GOk.call rfl rfl cl75 rfl (watchbillref16_display.ok (ifT h15 hw13)) rfl))) ?_
            refine .cv (VOk.to (VOk.pickI (b := (x4_9 == 0)) (p := t14) (q := false) rfl rfl (fun hp16 => (cT (t_beq hp16))) (fun hp16 => rfl)) (pickAnd (x4_9 == 0) t14)) rfl rfl ?_
            exact .done (.rf rfl rfl)
          refine Ok.test (b := ((x4_9 == 0) && t14)) rfl (fun hb60 => ?_) (fun hb60 => ?_)
          · replace H := ifT H hb60
            refine Ok.exit ?_
            refine Ok.region (σ' := ⟨[(3, (L 6 e_api_Node t7)), (4, (.v (.int .i64 (IntKind.i64.wrap (x4_9 + 1)))))], []⟩) ?_ ?_
            · refine .cv (VOk.mv (d := (.v (.int .i64 x4_9))) rfl rfl) rfl rfl ?_
              refine .cv (VOk.arith (op := .add) (k := .i64) (a := x4_9) (b := 1) rfl rfl rfl rfl) rfl rfl ?_
              refine .cv (VOk.asg (d := (.v (.int .i64 (IntKind.i64.wrap (x4_9 + 1))))) rfl rfl) rfl rfl ?_
              exact .done (.rf rfl rfl)
            exact ⟨m11, Nat.lt_succ_self m11, (IntKind.i64.wrap (x4_9 + 1)), rfl, H⟩
          · replace H := ifF H hb60
            refine Ok.skip ?_
            refine Ok.seq ?_
            refine Ok.seq ?_
            obtain ⟨t17, h18, H⟩ := bindE H
            refine Ok.region (σ' := ⟨[(3, (L 6 e_api_Node t7)), (4, (.v (.int .i64 x4_9))), (5, (.bref 5 0)), (35, (.v (.bool t17)))], [(5, (.box .ex (c_api_Node (rd t7 x4_9))))]⟩) ?_ ?_
            · refine .cv (VOk.to (d' := (.agg (e_api_Node (rd t7 x4_9)))) (.loadBAgg rfl Try.underlying27 rfl sz27 rfl rfl rfl) (congrArg D.agg (e_api_Node_c (rd t7 x4_9)).symm)) rfl rfl ?_
              refine .cg (GOk.call rfl rfl cl28 rfl (watchbillref16_Is.ok h18) rfl) rfl rfl ?_
              exact .done (.rf rfl rfl)
            refine Ok.test (b := t17) rfl (fun hb59 => ?_) (fun hb59 => ?_)
            · replace H := ifT H hb59
              refine Ok.seq ?_
              refine Ok.seq ?_
              obtain ⟨t19, h20, H⟩ := bindE H
              refine Ok.region (σ' := ⟨[(3, (L 6 e_api_Node t7)), (4, (.v (.int .i64 x4_9))), (38, (.v (.bool (!t19))))], []⟩) ?_ ?_
              · refine .cv (VOk.to (d' := (.agg (e_api_Node (rd t7 x4_9)))) (.loadBAgg rfl Try.underlying27 rfl sz27 rfl rfl rfl) (congrArg D.agg (e_api_Node_c (rd t7 x4_9)).symm)) rfl rfl ?_
                refine .cg (GOk.call rfl rfl cl56 rfl (@ih _ _ h20) rfl) rfl rfl ?_
                refine .cv (VOk.not (b := t19) rfl rfl) rfl rfl ?_
                exact .done (.rf rfl rfl)
              refine Ok.test (b := (!t19)) rfl (fun hb21 => ?_) (fun hb21 => ?_)
              · replace H := ifT H hb21
                refine Ok.seq ?_
                refine Ok.region (σ' := ⟨[(2, (.v (.bool false)))], []⟩) ?_ ?_
                · refine .cv (VOk.asg (d := (.v (.bool false))) rfl rfl) rfl rfl ?_
                  exact .done (.rf rfl rfl)
                refine Ok.ret ?_
                obtain rfl := Option.some.inj H
                exact ⟨.inl rfl, ⟨_, (.cons (.tmp rfl) .nil), rfl⟩, trivial⟩
              · replace H := ifF H hb21
                refine Ok.skip ?_
                refine Ok.exit ?_
                refine Ok.region (σ' := ⟨[(3, (L 6 e_api_Node t7)), (4, (.v (.int .i64 (IntKind.i64.wrap (x4_9 + 1)))))], []⟩) ?_ ?_
                · refine .cv (VOk.mv (d := (.v (.int .i64 x4_9))) rfl rfl) rfl rfl ?_
                  refine .cv (VOk.arith (op := .add) (k := .i64) (a := x4_9) (b := 1) rfl rfl rfl rfl) rfl rfl ?_
                  refine .cv (VOk.asg (d := (.v (.int .i64 (IntKind.i64.wrap (x4_9 + 1))))) rfl rfl) rfl rfl ?_
                  exact .done (.rf rfl rfl)
                exact ⟨m11, Nat.lt_succ_self m11, (IntKind.i64.wrap (x4_9 + 1)), rfl, H⟩
            · replace H := ifF H hb59
              refine Ok.skip ?_
              refine Ok.seq ?_
              obtain ⟨t22, h23, H⟩ := bindE H
              refine Ok.region (σ' := ⟨[(3, (L 6 e_api_Node t7)), (4, (.v (.int .i64 x4_9))), (5, (.bref 5 0)), (6, (L 6 e_api_Node t22))], [(5, (.box .ex (c_api_Node (rd t7 x4_9))))]⟩) ?_ ?_
              · refine .cv (VOk.to (d' := (.agg (e_api_Node (rd t7 x4_9)))) (.loadBAgg rfl Try.underlying27 rfl sz27 rfl rfl rfl) (congrArg D.agg (e_api_Node_c (rd t7 x4_9)).symm)) rfl rfl ?_
                refine .cg (GOk.call rfl rfl cl30 rfl (watchbillref16_Kids.ok h23) rfl) rfl rfl ?_
                refine .cv (VOk.asg (d := (L 6 e_api_Node t22)) rfl rfl) rfl rfl ?_
                exact .done (.rf rfl rfl)
              refine Ok.seq ?_
              refine Ok.seq ?_
              obtain ⟨t24, h25, H⟩ := bindE H
              obtain ⟨c30, H⟩ := assertE H
              obtain ⟨t31, h32, H⟩ := bindE H
              refine Ok.region (σ' := ⟨[(3, (L 6 e_api_Node t7)), (4, (.v (.int .i64 x4_9))), (5, (.bref 5 0)), (60, (.v (.bool (((!t24) || (decide ((t22.length : Int) > 1))) || (((t22.length : Int) == 1) && (!t31))))))], [(5, (.box .ex (c_api_Node (rd t7 x4_9))))]⟩) ?_ ?_
              · refine .cv (VOk.to (d' := (.agg (e_api_Node (rd t7 x4_9)))) (.loadBAgg rfl Try.underlying27 rfl sz27 rfl rfl rfl) (congrArg D.agg (e_api_Node_c (rd t7 x4_9)).symm)) rfl rfl ?_
                refine .cg (GOk.call rfl rfl cl29 rfl (watchbillref16_Blank.ok h25) rfl) rfl rfl ?_
                refine .cv (VOk.not (b := t24) rfl rfl) rfl rfl ?_
                refine .cv (VOk.mv (d := (.v (.bool (!t24)))) rfl rfl) rfl rfl ?_
                refine OpsOk.consI rfl rfl rfl (.one rfl) rfl (fun hw26 => (VOk.g (VOk.mv (d := (L 6 e_api_Node t22)) rfl rfl))) ?_
                refine OpsOk.consI rfl rfl rfl (.one rfl) rfl (fun hw26 => (GOk.fr (fr' := [(45, (L 6 e_api_Node t22))]) ⟨DLe.of_eq (cT hw26).symm, trivial⟩ (VOk.g (VOk.lenL (e := e_api_Node) (xs := t22) rfl Try.underlying25 rfl)))) ?_
                refine OpsOk.consI rfl rfl rfl (.one rfl) rfl (fun hw26 => (GOk.fr (fr' := [(46, (.v (.int .i64 (t22.length : Int))))]) ⟨DLe.of_eq (cT hw26).symm, trivial⟩ (VOk.g (VOk.arith (op := .gtr) (k := .i64) (a := (t22.length : Int)) (b := 1) rfl rfl rfl rfl)))) ?_
                refine .cv (VOk.to (VOk.pickI (b := (!t24)) (p := true) (q := (decide ((t22.length : Int) > 1))) rfl rfl (fun hp27 => rfl) (fun hp27 => (cT (f_beq hp27)))) (pickOr (!t24) (decide ((t22.length : Int) > 1)))) rfl rfl ?_
                refine .cv (VOk.mv (d := (.v (.bool ((!t24) || (decide ((t22.length : Int) > 1)))))) rfl rfl) rfl rfl ?_
                refine OpsOk.consI rfl rfl rfl (.one rfl) rfl (fun hw28 => (VOk.g (VOk.mv (d := (L 6 e_api_Node t22)) rfl rfl))) ?_
                refine OpsOk.consI rfl rfl rfl (.one rfl) rfl (fun hw28 => (GOk.fr (fr' := [(50, (L 6 e_api_Node t22))]) ⟨DLe.of_eq (cT hw28).symm, trivial⟩ (VOk.g (VOk.lenL (e := e_api_Node) (xs := t22) rfl Try.underlying25 rfl)))) ?_
                refine OpsOk.consI rfl rfl rfl (.one rfl) rfl (fun hw28 => (GOk.fr (fr' := [(51, (.v (.int .i64 (t22.length : Int))))]) ⟨DLe.of_eq (cT hw28).symm, trivial⟩ (VOk.g (VOk.arith (op := .eql) (k := .i64) (a := (t22.length : Int)) (b := 1) rfl rfl rfl rfl)))) ?_
                refine OpsOk.consI rfl rfl rfl (.one rfl) rfl (fun hw28 => (GOk.fr (fr' := [(52, (.v (.bool ((t22.length : Int) == 1))))]) ⟨DLe.of_eq (cT hw28).symm, trivial⟩ (VOk.g (VOk.mv (d := (.v (.bool ((t22.length : Int) == 1)))) rfl rfl)))) ?_
                refine OpsOk.consI rfl rfl rfl (.two rfl) rfl (fun hw29 => (VOk.g (VOk.mv (d := (L 6 e_api_Node t22)) rfl rfl))) ?_
                refine OpsOk.consI rfl rfl rfl (.two rfl) rfl (fun hw29 => (GOk.fr (fr' := [(54, (L 6 e_api_Node t22))]) ⟨DLe.of_eq (cT hw29).symm, trivial⟩ (VOk.g (VOk.indexL (sz := 6) (e := e_api_Node) (xs := t22) (i := 0) rfl Try.underlying25 sz27 rfl rfl (c30 hw29))))) ?_
                refine OpsOk.consI rfl rfl rfl (.two rfl) rfl (fun hw29 => (GOk.fr (fr' := [(55, (.fp (e_api_Node (rd t22 0)) 0))]) ⟨DLe.of_eq (cT hw29).symm, trivial⟩ (VOk.g (VOk.to (d' := (.agg (e_api_Node (rd t22 0)))) (.loadFpAgg rfl Try.underlying27 rfl sz27 rfl rfl) rfl)))) ?_
                refine OpsOk.consI rfl rfl rfl (.two rfl) rfl (fun hw29 => (GOk.fr (fr' := [(56, (.agg (e_api_Node (rd t22 0))))]) ⟨DLe.of_eq (cT hw29).symm, trivial⟩ (GOk.call rfl rfl cl75 rfl (watchbillref16_display.ok (ifT h32 hw29)) rfl))) ?_
                refine OpsOk.consI rfl rfl rfl (.two rfl) rfl (fun hw29 => (GOk.fr (fr' := [(57, (.v (.bool t31)))]) ⟨DLe.of_eq (cT hw29).symm, trivial⟩ (VOk.g (VOk.not (b := t31) rfl rfl)))) ?_
                refine OpsOk.consI rfl rfl rfl (.one rfl) rfl (fun hw28 => (VOk.g (VOk.to (VOk.pickI (b := ((t22.length : Int) == 1)) (p := (!t31)) (q := false) rfl (cT hw28) (fun hp33 => (cT (and_i hw28 (t_beq hp33)))) (fun hp33 => rfl)) (pickAnd ((t22.length : Int) == 1) (!t31))))) ?_
                refine .cv (VOk.to (VOk.pickI (b := ((!t24) || (decide ((t22.length : Int) > 1)))) (p := true) (q := (((t22.length : Int) == 1) && (!t31))) rfl rfl (fun hp34 => rfl) (fun hp34 => (cT (f_beq hp34)))) (pickOr ((!t24) || (decide ((t22.length : Int) > 1))) (((t22.length : Int) == 1) && (!t31)))) rfl rfl ?_
                exact .done (.rf rfl rfl)
              refine Ok.test (b := (((!t24) || (decide ((t22.length : Int) > 1))) || (((t22.length : Int) == 1) && (!t31)))) rfl (fun hb58 => ?_) (fun hb58 => ?_)
              · replace H := ifT H hb58
                refine Ok.seq ?_
                refine Ok.region (σ' := ⟨[(2, (.v (.bool false)))], []⟩) ?_ ?_
                · refine .cv (VOk.asg (d := (.v (.bool false))) rfl rfl) rfl rfl ?_
                  exact .done (.rf rfl rfl)
                refine Ok.ret ?_
                obtain rfl := Option.some.inj H
                exact ⟨.inl rfl, ⟨_, (.cons (.tmp rfl) .nil), rfl⟩, trivial⟩
              · replace H := ifF H hb58
                refine Ok.skip ?_
                refine Ok.seq ?_
                obtain ⟨t35, h36, H⟩ := bindE H
                obtain ⟨t38, h39, H⟩ := bindE H
                obtain ⟨t42, h43, H⟩ := bindE H
                obtain ⟨t45, h46, H⟩ := bindE H
                obtain ⟨t50, h51, H⟩ := bindE H
                obtain ⟨t53, h54, H⟩ := bindE H
                refine Ok.region (σ' := ⟨[(3, (L 6 e_api_Node t7)), (4, (.v (.int .i64 x4_9))), (7, (.v (.bool (((t35 && (!(t38 == ([] : Str)))) || (t42 && (!(t45 == ([] : Str))))) || (t50 && (!(t53 == ([] : Str))))))))], []⟩) ?_ ?_
                · refine .cv (VOk.to (d' := (.agg (e_api_Node (rd t7 x4_9)))) (.loadBAgg rfl Try.underlying27 rfl sz27 rfl rfl rfl) (congrArg D.agg (e_api_Node_c (rd t7 x4_9)).symm)) rfl rfl ?_
                  refine .cg (GOk.call rfl rfl cl28 rfl (watchbillref16_Is.ok h36) rfl) rfl rfl ?_
                  refine .cv (VOk.mv (d := (.v (.bool t35))) rfl rfl) rfl rfl ?_
                  refine OpsOk.consI rfl rfl rfl (.one rfl) rfl (fun hw37 => (VOk.g (VOk.to (d' := (.agg (e_api_Node (rd t7 x4_9)))) (.loadBAgg rfl Try.underlying27 rfl sz27 rfl rfl rfl) (congrArg D.agg (e_api_Node_c (rd t7 x4_9)).symm)))) ?_
                  refine OpsOk.consI rfl rfl rfl (.one rfl) rfl (fun hw37 => (GOk.fr (fr' := [(64, (.agg (e_api_Node (rd t7 x4_9))))]) ⟨DLe.of_eq (cT hw37).symm, trivial⟩ (GOk.call rfl rfl cl55 rfl (watchbillref16_Attr.ok (ifT h39 hw37)) rfl))) ?_
                  refine OpsOk.consI rfl rfl rfl (.one rfl) rfl (fun hw37 => (GOk.fr (fr' := [(65, (S t38))]) ⟨DLe.of_eq (cT hw37).symm, trivial⟩ (VOk.g (VOk.strOp (op := .neq) (a := t38) (b := ([] : Str)) rfl rfl rfl rfl)))) ?_
                  refine .cv (VOk.to (VOk.pickI (b := t35) (p := (!(t38 == ([] : Str)))) (q := false) rfl rfl (fun hp40 => (cT (t_beq hp40))) (fun hp40 => rfl)) (pickAnd t35 (!(t38 == ([] : Str))))) rfl rfl ?_
                  refine .cv (VOk.mv (d := (.v (.bool (t35 && (!(t38 == ([] : Str))))))) rfl rfl) rfl rfl ?_
                  refine OpsOk.consI rfl rfl rfl (.one rfl) rfl (fun hw41 => (VOk.g (VOk.to (d' := (.agg (e_api_Node (rd t7 x4_9)))) (.loadBAgg rfl Try.underlying27 rfl sz27 rfl rfl rfl) (congrArg D.agg (e_api_Node_c (rd t7 x4_9)).symm)))) ?_
                  refine OpsOk.consI rfl rfl rfl (.one rfl) rfl (fun hw41 => (GOk.fr (fr' := [(69, (.agg (e_api_Node (rd t7 x4_9))))]) ⟨DLe.of_eq (cT hw41).symm, trivial⟩ (GOk.call rfl rfl cl28 rfl (watchbillref16_Is.ok (ifT h43 hw41)) rfl))) ?_
                  refine OpsOk.consI rfl rfl rfl (.one rfl) rfl (fun hw41 => (GOk.fr (fr' := [(70, (.v (.bool t42)))]) ⟨DLe.of_eq (cT hw41).symm, trivial⟩ (VOk.g (VOk.mv (d := (.v (.bool t42))) rfl rfl)))) ?_
                  refine OpsOk.consI rfl rfl rfl (.two rfl) rfl (fun hw44 => (VOk.g (VOk.to (d' := (.agg (e_api_Node (rd t7 x4_9)))) (.loadBAgg rfl Try.underlying27 rfl sz27 rfl rfl rfl) (congrArg D.agg (e_api_Node_c (rd t7 x4_9)).symm)))) ?_
                  refine OpsOk.consI rfl rfl rfl (.two rfl) rfl (fun hw44 => (GOk.fr (fr' := [(72, (.agg (e_api_Node (rd t7 x4_9))))]) ⟨DLe.of_eq (cT hw44).symm, trivial⟩ (GOk.call rfl rfl cl55 rfl (watchbillref16_Attr.ok (ifT h46 hw44)) rfl))) ?_
                  refine OpsOk.consI rfl rfl rfl (.two rfl) rfl (fun hw44 => (GOk.fr (fr' := [(73, (S t45))]) ⟨DLe.of_eq (cT hw44).symm, trivial⟩ (VOk.g (VOk.strOp (op := .neq) (a := t45) (b := ([] : Str)) rfl rfl rfl rfl)))) ?_
                  refine OpsOk.consI rfl rfl rfl (.one rfl) rfl (fun hw41 => (VOk.g (VOk.to (VOk.pickI (b := t42) (p := (!(t45 == ([] : Str)))) (q := false) rfl (cT hw41) (fun hp47 => (cT (and_i hw41 (t_beq hp47)))) (fun hp47 => rfl)) (pickAnd t42 (!(t45 == ([] : Str))))))) ?_
                  refine .cv (VOk.to (VOk.pickI (b := (t35 && (!(t38 == ([] : Str))))) (p := true) (q := (t42 && (!(t45 == ([] : Str))))) rfl rfl (fun hp48 => rfl) (fun hp48 => (cT (f_beq hp48)))) (pickOr (t35 && (!(t38 == ([] : Str)))) (t42 && (!(t45 == ([] : Str)))))) rfl rfl ?_
                  refine .cv (VOk.mv (d := (.v (.bool ((t35 && (!(t38 == ([] : Str)))) || (t42 && (!(t45 == ([] : Str)))))))) rfl rfl) rfl rfl ?_
                  refine OpsOk.consI rfl rfl rfl (.one rfl) rfl (fun hw49 => (VOk.g (VOk.to (d' := (.agg (e_api_Node (rd t7 x4_9)))) (.loadBAgg rfl Try.underlying27 rfl sz27 rfl rfl rfl) (congrArg D.agg (e_api_Node_c (rd t7 x4_9)).symm)))) ?_
                  refine OpsOk.consI rfl rfl rfl (.one rfl) rfl (fun hw49 => (GOk.fr (fr' := [(78, (.agg (e_api_Node (rd t7 x4_9))))]) ⟨DLe.of_eq (cT hw49).symm, trivial⟩ (GOk.call rfl rfl cl28 rfl (watchbillref16_Is.ok (ifT h51 hw49)) rfl))) ?_
                  refine OpsOk.consI rfl rfl rfl (.one rfl) rfl (fun hw49 => (GOk.fr (fr' := [(79, (.v (.bool t50)))]) ⟨DLe.of_eq (cT hw49).symm, trivial⟩ (VOk.g (VOk.mv (d := (.v (.bool t50))) rfl rfl)))) ?_
                  refine OpsOk.consI rfl rfl rfl (.two rfl) rfl (fun hw52 => (VOk.g (VOk.to (d' := (.agg (e_api_Node (rd t7 x4_9)))) (.loadBAgg rfl Try.underlying27 rfl sz27 rfl rfl rfl) (congrArg D.agg (e_api_Node_c (rd t7 x4_9)).symm)))) ?_
                  refine OpsOk.consI rfl rfl rfl (.two rfl) rfl (fun hw52 => (GOk.fr (fr' := [(81, (.agg (e_api_Node (rd t7 x4_9))))]) ⟨DLe.of_eq (cT hw52).symm, trivial⟩ (GOk.call rfl rfl cl55 rfl (watchbillref16_Attr.ok (ifT h54 hw52)) rfl))) ?_
                  refine OpsOk.consI rfl rfl rfl (.two rfl) rfl (fun hw52 => (GOk.fr (fr' := [(82, (S t53))]) ⟨DLe.of_eq (cT hw52).symm, trivial⟩ (VOk.g (VOk.strOp (op := .neq) (a := t53) (b := ([] : Str)) rfl rfl rfl rfl)))) ?_
                  refine OpsOk.consI rfl rfl rfl (.one rfl) rfl (fun hw49 => (VOk.g (VOk.to (VOk.pickI (b := t50) (p := (!(t53 == ([] : Str)))) (q := false) rfl (cT hw49) (fun hp55 => (cT (and_i hw49 (t_beq hp55)))) (fun hp55 => rfl)) (pickAnd t50 (!(t53 == ([] : Str))))))) ?_
                  refine .cv (VOk.to (VOk.pickI (b := ((t35 && (!(t38 == ([] : Str)))) || (t42 && (!(t45 == ([] : Str)))))) (p := true) (q := (t50 && (!(t53 == ([] : Str))))) rfl rfl (fun hp56 => rfl) (fun hp56 => (cT (f_beq hp56)))) (pickOr ((t35 && (!(t38 == ([] : Str)))) || (t42 && (!(t45 == ([] : Str))))) (t50 && (!(t53 == ([] : Str)))))) rfl rfl ?_
                  refine .cv (VOk.asg (d := (.v (.bool (((t35 && (!(t38 == ([] : Str)))) || (t42 && (!(t45 == ([] : Str))))) || (t50 && (!(t53 == ([] : Str)))))))) rfl rfl) rfl rfl ?_
                  exact .done (.rf rfl rfl)
                refine Ok.seq ?_
                refine Ok.region (σ' := ⟨[(3, (L 6 e_api_Node t7)), (4, (.v (.int .i64 x4_9))), (87, (.v (.bool (!(((t35 && (!(t38 == ([] : Str)))) || (t42 && (!(t45 == ([] : Str))))) || (t50 && (!(t53 == ([] : Str)))))))))], []⟩) ?_ ?_
                · refine .cv (VOk.mv (d := (.v (.bool (((t35 && (!(t38 == ([] : Str)))) || (t42 && (!(t45 == ([] : Str))))) || (t50 && (!(t53 == ([] : Str)))))))) rfl rfl) rfl rfl ?_
                  refine .cv (VOk.not (b := (((t35 && (!(t38 == ([] : Str)))) || (t42 && (!(t45 == ([] : Str))))) || (t50 && (!(t53 == ([] : Str)))))) rfl rfl) rfl rfl ?_
                  exact .done (.rf rfl rfl)
                refine Ok.test (b := (!(((t35 && (!(t38 == ([] : Str)))) || (t42 && (!(t45 == ([] : Str))))) || (t50 && (!(t53 == ([] : Str))))))) rfl (fun hb57 => ?_) (fun hb57 => ?_)
                · replace H := ifT H hb57
                  refine Ok.seq ?_
                  refine Ok.region (σ' := ⟨[(2, (.v (.bool false)))], []⟩) ?_ ?_
                  · refine .cv (VOk.asg (d := (.v (.bool false))) rfl rfl) rfl rfl ?_
                    exact .done (.rf rfl rfl)
                  refine Ok.ret ?_
                  obtain rfl := Option.some.inj H
                  exact ⟨.inl rfl, ⟨_, (.cons (.tmp rfl) .nil), rfl⟩, trivial⟩
                · replace H := ifF H hb57
                  refine Ok.skip ?_
                  refine Ok.region (σ' := ⟨[(3, (L 6 e_api_Node t7)), (4, (.v (.int .i64 (IntKind.i64.wrap (x4_9 + 1)))))], []⟩) ?_ ?_
                  · refine .cv (VOk.mv (d := (.v (.int .i64 x4_9))) rfl rfl) rfl rfl ?_
                    refine .cv (VOk.arith (op := .add) (k := .i64) (a := x4_9) (b := 1) rfl rfl rfl rfl) rfl rfl ?_
                    refine .cv (VOk.asg (d := (.v (.int .i64 (IntKind.i64.wrap (x4_9 + 1))))) rfl rfl) rfl rfl ?_
                    exact .done (.rf rfl rfl)
                  exact ⟨m11, Nat.lt_succ_self m11, (IntKind.i64.wrap (x4_9 + 1)), rfl, H⟩
        · replace H := ifF H hb61
          refine Ok.exit ?_
          refine Ok.seq ?_
          refine Ok.region (σ' := ⟨[(2, (.v (.bool true)))], []⟩) ?_ ?_
          · refine .cv (VOk.asg (d := (.v (.bool true))) rfl rfl) rfl rfl ?_
            exact .done (.rf rfl rfl)
          refine Ok.ret ?_
          obtain rfl := Option.some.inj H
          exact ⟨.inl rfl, ⟨_, (.cons (.tmp rfl) .nil), rfl⟩, trivial⟩

/-! watchbill/watchbillref04.Value: function 76 -/
def watchbillref04_Value.l0 (k : Nat) : Nat → Int → Str → Str → List T_api_Attr → List T_api_Node → Str → Str → Int → Option Str
  | 0, _, _, _, _, _, _, _, _ => none
  | m17 + 1, y1_0_3, y1_1_4, y1_2_5, y1_3_6, y1_4_7, y1_5_8, x3_1, x4_2 => (if (decide (x4_2 < (y1_4_7.length : Int))) = true then (if (0 : Int) ≤ x4_2 ∧ x4_2 < (y1_4_7.length : Int) then (if (((rd y1_4_7 x4_2).Kind) == 2) = true then (if (0 : Int) ≤ x4_2 ∧ x4_2 < (y1_4_7.length : Int) then (if x3_1.length + ((rd y1_4_7 x4_2).Text).length ≤ 9223372036854775807 then watchbillref04_Value.l0 k m17 y1_0_3 y1_1_4 y1_2_5 y1_3_6 y1_4_7 y1_5_8 (x3_1 ++ ((rd y1_4_7 x4_2).Text)) (IntKind.i64.wrap (x4_2 + 1)) else none) else none) else watchbillref04_Value.l0 k m17 y1_0_3 y1_1_4 y1_2_5 y1_3_6 y1_4_7 y1_5_8 x3_1 (IntKind.i64.wrap (x4_2 + 1))) else none) else some x3_1)
def watchbillref04_Value (k : Nat) (a0 : T_api_Node) : Option Str := (if (a0.Kind == 2) = true then some a0.Text else watchbillref04_Value.l0 k k a0.Kind a0.Name.Space a0.Name.Local a0.Attrs a0.Kids a0.Text ([] : Str) 0)
theorem watchbillref04_Value.ok {k : Nat} {a0 : T_api_Node} {r : Str} (H : watchbillref04_Value k a0 = some r) : Vx.Fn Try.prog 76 [(.agg (e_api_Node a0))] [] (S r) [] := by
  unfold watchbillref04_Value at H
  refine Vx.Fn.of_okR Try.func76 rfl (Nat.le_of_ble_eq_true rfl) ?_
  refine Ok.seq ?_
  refine Ok.region (σ' := ⟨[(1, (.bref 1 0))], [(1, (.box .ex (c_api_Node a0)))]⟩) ?_ ?_
  · refine OpsOk.cut1 0 (.agg [(.v (.int .i64 a0.Kind)), (S a0.Name.Space), (S a0.Name.Local), (L 3 e_api_Attr a0.Attrs), (L 6 e_api_Node a0.Kids), (S a0.Text)]) (DLe.of_eq (congrArg D.agg (e_api_Node_c _).symm)) ?_
    refine OpsOk.cons rfl (OpOk.box 1 (cells := [(.v (.int .i64 a0.Kind)), (S a0.Name.Space), (S a0.Name.Local), (L 3 e_api_Attr a0.Attrs), (L 6 e_api_Node a0.Kids), (S a0.Text)]) rfl rfl rfl rfl) ?_
    refine .cv (VOk.asg (d := (S ([] : Str))) rfl rfl) rfl rfl ?_
    exact .done (.rf rfl rfl)
  refine Ok.seq ?_
  refine Ok.seq ?_
  refine Ok.region (σ' := ⟨[(1, (.bref 1 0)), (7, (.v (.bool (a0.Kind == 2))))], [(1, (.box .ex (c_api_Node a0)))]⟩) ?_ ?_
  · refine .cv (VOk.to (VOk.fieldB rfl Try.underlying27 rfl sz3 rfl rfl) rfl) rfl rfl ?_
    refine .cv (VOk.loadB (d := (.v (.int .i64 a0.Kind))) rfl Try.underlying3 rfl rfl rfl rfl) rfl rfl ?_
    refine .cv (VOk.arith (op := .eql) (k := .i64) (a := a0.Kind) (b := 2) rfl rfl rfl rfl) rfl rfl ?_
    exact .done (.rf rfl rfl)
  refine Ok.test (b := (a0.Kind == 2)) rfl (fun hb23 => ?_) (fun hb23 => ?_)
  · replace H := ifT H hb23
    refine Ok.seq ?_
    refine Ok.region (σ' := ⟨[(2, (S a0.Text))], []⟩) ?_ ?_
    · refine .cv (VOk.to (VOk.fieldB rfl Try.underlying27 rfl sz9 rfl rfl) rfl) rfl rfl ?_
      refine .cv (VOk.loadB (d := (S a0.Text)) rfl Try.underlying9 rfl rfl rfl rfl) rfl rfl ?_
      refine .cv (VOk.asg (d := (S a0.Text)) rfl rfl) rfl rfl ?_
      exact .done (.rf rfl rfl)
    refine Ok.ret ?_
    obtain rfl := Option.some.inj H
    exact ⟨.inl rfl, ⟨_, (.cons (.tmp rfl) .nil), rfl⟩, trivial⟩
  · replace H := ifF H hb23
    refine Ok.skip ?_
    refine Ok.seq ?_
    refine Ok.region (σ' := ⟨[(1, (.bref 1 0)), (3, (S ([] : Str)))], [(1, (.box .ex (c_api_Node a0)))]⟩) ?_ ?_
    · refine .cv (VOk.asg (d := (S ([] : Str))) rfl rfl) rfl rfl ?_
      exact .done (.rf rfl rfl)
    refine Ok.seq ?_
    refine Ok.seq ?_
    refine Ok.region (σ' := ⟨[(1, (.bref 1 0)), (3, (S ([] : Str))), (4, (.v (.int .i64 0)))], [(1, (.box .ex (c_api_Node a0)))]⟩) ?_ ?_
    · refine .cv (VOk.asg (d := (.v (.int .i64 0))) rfl rfl) rfl rfl ?_
      exact .done (.rf rfl rfl)
    refine Ok.block ?_
    refine Ok.le (σ' := ⟨[(1, (.bref 1 0)), (3, (S ([] : Str))), (4, (.v (.int .i64 0)))], [(1, (.box .ex (c_api_Node a0)))]⟩) (.rf rfl rfl) ?_
    refine Ok.loop (fun m17 σ => ∃ (y1_0_3 : Int) (y1_1_4 : Str) (y1_2_5 : Str) (y1_3_6 : List T_api_Attr) (y1_4_7 : List T_api_Node) (y1_5_8 : Str) (x3_1 : Str) (x4_2 : Int), σ = ⟨[(1, (.bref 1 0)), (3, (S x3_1)), (4, (.v (.int .i64 x4_2)))], [(1, (.box .ex [(.v (.int .i64 y1_0_3)), (S y1_1_4), (S y1_2_5), (L 3 e_api_Attr y1_3_6), (L 6 e_api_Node y1_4_7), (S y1_5_8)]))]⟩ ∧ watchbillref04_Value.l0 k m17 y1_0_3 y1_1_4 y1_2_5 y1_3_6 y1_4_7 y1_5_8 x3_1 x4_2 = some r) k ⟨a0.Kind, a0.Name.Space, a0.Name.Local, a0.Attrs, a0.Kids, a0.Text, ([] : Str), 0, rfl, H⟩ ?_
    rintro m17 σ ⟨y1_0_3, y1_1_4, y1_2_5, y1_3_6, y1_4_7, y1_5_8, x3_1, x4_2, rfl, H⟩
    cases m17 with
    | zero => exact absurd H (by simp [watchbillref04_Value.l0])
    | succ m17 =>
      unfold watchbillref04_Value.l0 at H
      refine Ok.seq ?_
      refine Ok.seq ?_
      refine Ok.region (σ' := ⟨[(1, (.bref 1 0)), (3, (S x3_1)), (4, (.v (.int .i64 x4_2))), (14, (.v (.bool (decide (x4_2 < (y1_4_7.length : Int))))))], [(1, (.box .ex [(.v (.int .i64 y1_0_3)), (S y1_1_4), (S y1_2_5), (L 3 e_api_Attr y1_3_6), (L 6 e_api_Node y1_4_7), (S y1_5_8)]))]⟩) ?_ ?_
      · refine .cv (VOk.mv (d := (.v (.int .i64 x4_2))) rfl rfl) rfl rfl ?_
        refine .cv (VOk.to (VOk.fieldB rfl Try.underlying27 rfl sz25 rfl rfl) rfl) rfl rfl ?_
        refine .cv (VOk.loadB (d := (L 6 e_api_Node y1_4_7)) rfl Try.underlying25 rfl rfl rfl rfl) rfl rfl ?_
        refine .cv (VOk.lenL (e := e_api_Node) (xs := y1_4_7) rfl Try.underlying25 rfl) rfl rfl ?_
        refine .cv (VOk.arith (op := .lss) (k := .i64) (a := x4_2) (b := (y1_4_7.length : Int)) rfl rfl rfl rfl) rfl rfl ?_
        exact .done (.rf rfl rfl)
      refine Ok.test (b := (decide (x4_2 < (y1_4_7.length : Int)))) rfl (fun hb22 => ?_) (fun hb22 => ?_)
      · replace H := ifT H hb22
        refine Ok.skip ?_
        refine Ok.seq ?_
        refine Ok.block ?_
        refine Ok.seq ?_
        obtain ⟨c18, H⟩ := assertE H
        refine Ok.region (σ' := ⟨[(1, (.bref 1 0)), (3, (S x3_1)), (4, (.v (.int .i64 x4_2))), (23, (.v (.bool (((rd y1_4_7 x4_2).Kind) == 2))))], [(1, (.box .ex [(.v (.int .i64 y1_0_3)), (S y1_1_4), (S y1_2_5), (L 3 e_api_Attr y1_3_6), (L 6 e_api_Node y1_4_7), (S y1_5_8)]))]⟩) ?_ ?_
        · refine .cv (VOk.to (VOk.fieldB rfl Try.underlying27 rfl sz25 rfl rfl) rfl) rfl rfl ?_
          refine .cv (VOk.loadB (d := (L 6 e_api_Node y1_4_7)) rfl Try.underlying25 rfl rfl rfl rfl) rfl rfl ?_
          refine .cv (VOk.mv (d := (.v (.int .i64 x4_2))) rfl rfl) rfl rfl ?_
          refine .cv (VOk.indexL (sz := 6) (e := e_api_Node) (xs := y1_4_7) (i := x4_2) rfl Try.underlying25 sz27 rfl rfl c18) rfl rfl ?_
          refine .cv (VOk.to (VOk.fieldFp rfl Try.underlying27 rfl sz3 rfl) rfl) rfl rfl ?_
          refine .cv (VOk.loadFp (d := (.v (.int .i64 ((rd y1_4_7 x4_2).Kind)))) rfl Try.underlying3 rfl rfl rfl) rfl rfl ?_
          refine .cv (VOk.arith (op := .eql) (k := .i64) (a := (rd y1_4_7 x4_2).Kind) (b := 2) rfl rfl rfl rfl) rfl rfl ?_
          exact .done (.rf rfl rfl)
        refine Ok.test (b := (((rd y1_4_7 x4_2).Kind) == 2)) rfl (fun hb21 => ?_) (fun hb21 => ?_)
        · replace H := ifT H hb21
          obtain ⟨c19, H⟩ := assertE H
          obtain ⟨c20, H⟩ := assertE H
          refine Ok.region (σ' := ⟨[(1, (.bref 1 0)), (3, (S (x3_1 ++ ((rd y1_4_7 x4_2).Text)))), (4, (.v (.int .i64 x4_2)))], [(1, (.box .ex [(.v (.int .i64 y1_0_3)), (S y1_1_4), (S y1_2_5), (L 3 e_api_Attr y1_3_6), (L 6 e_api_Node y1_4_7), (S y1_5_8)]))]⟩) ?_ ?_
          · refine .cv (VOk.mv (d := (S x3_1)) rfl rfl) rfl rfl ?_
            refine .cv (VOk.to (VOk.fieldB rfl Try.underlying27 rfl sz25 rfl rfl) rfl) rfl rfl ?_
            refine .cv (VOk.loadB (d := (L 6 e_api_Node y1_4_7)) rfl Try.underlying25 rfl rfl rfl rfl) rfl rfl ?_
            refine .cv (VOk.mv (d := (.v (.int .i64 x4_2))) rfl rfl) rfl rfl ?_
            refine .cv (VOk.indexL (sz := 6) (e := e_api_Node) (xs := y1_4_7) (i := x4_2) rfl Try.underlying25 sz27 rfl rfl c19) rfl rfl ?_
            refine .cv (VOk.to (VOk.fieldFp rfl Try.underlying27 rfl sz9 rfl) rfl) rfl rfl ?_
            refine .cv (VOk.loadFp (d := (S ((rd y1_4_7 x4_2).Text))) rfl Try.underlying9 rfl rfl rfl) rfl rfl ?_
            refine .cv (VOk.cat (a := x3_1) (b := (rd y1_4_7 x4_2).Text) rfl rfl rfl c20) rfl rfl ?_
            refine .cv (VOk.asg (d := (S (x3_1 ++ ((rd y1_4_7 x4_2).Text)))) rfl rfl) rfl rfl ?_
            exact .done (.rf rfl rfl)
          refine Ok.region (σ' := ⟨[(1, (.bref 1 0)), (3, (S (x3_1 ++ ((rd y1_4_7 x4_2).Text)))), (4, (.v (.int .i64 (IntKind.i64.wrap (x4_2 + 1)))))], [(1, (.box .ex [(.v (.int .i64 y1_0_3)), (S y1_1_4), (S y1_2_5), (L 3 e_api_Attr y1_3_6), (L 6 e_api_Node y1_4_7), (S y1_5_8)]))]⟩) ?_ ?_
          · refine .cv (VOk.mv (d := (.v (.int .i64 x4_2))) rfl rfl) rfl rfl ?_
            refine .cv (VOk.arith (op := .add) (k := .i64) (a := x4_2) (b := 1) rfl rfl rfl rfl) rfl rfl ?_
            refine .cv (VOk.asg (d := (.v (.int .i64 (IntKind.i64.wrap (x4_2 + 1))))) rfl rfl) rfl rfl ?_
            exact .done (.rf rfl rfl)
          exact ⟨m17, Nat.lt_succ_self m17, y1_0_3, y1_1_4, y1_2_5, y1_3_6, y1_4_7, y1_5_8, (x3_1 ++ ((rd y1_4_7 x4_2).Text)), (IntKind.i64.wrap (x4_2 + 1)), rfl, H⟩
        · replace H := ifF H hb21
          refine Ok.skip ?_
          refine Ok.region (σ' := ⟨[(1, (.bref 1 0)), (3, (S x3_1)), (4, (.v (.int .i64 (IntKind.i64.wrap (x4_2 + 1)))))], [(1, (.box .ex [(.v (.int .i64 y1_0_3)), (S y1_1_4), (S y1_2_5), (L 3 e_api_Attr y1_3_6), (L 6 e_api_Node y1_4_7), (S y1_5_8)]))]⟩) ?_ ?_
          · refine .cv (VOk.mv (d := (.v (.int .i64 x4_2))) rfl rfl) rfl rfl ?_
            refine .cv (VOk.arith (op := .add) (k := .i64) (a := x4_2) (b := 1) rfl rfl rfl rfl) rfl rfl ?_
            refine .cv (VOk.asg (d := (.v (.int .i64 (IntKind.i64.wrap (x4_2 + 1))))) rfl rfl) rfl rfl ?_
            exact .done (.rf rfl rfl)
          exact ⟨m17, Nat.lt_succ_self m17, y1_0_3, y1_1_4, y1_2_5, y1_3_6, y1_4_7, y1_5_8, x3_1, (IntKind.i64.wrap (x4_2 + 1)), rfl, H⟩
      · replace H := ifF H hb22
        refine Ok.exit ?_
        refine Ok.seq ?_
        refine Ok.region (σ' := ⟨[(2, (S x3_1))], []⟩) ?_ ?_
        · refine .cv (VOk.mv (d := (S x3_1)) rfl rfl) rfl rfl ?_
          refine .cv (VOk.asg (d := (S x3_1)) rfl rfl) rfl rfl ?_
          exact .done (.rf rfl rfl)
        refine Ok.ret ?_
        obtain rfl := Option.some.inj H
        exact ⟨.inl rfl, ⟨_, (.cons (.tmp rfl) .nil), rfl⟩, trivial⟩

/-! watchbill/watchbillref17.text: function 59 -/
def watchbillref17_text (k : Nat) (a0 : T_api_Node) : Option Str := ((watchbillref04_Value k a0).bind fun (t1 : Str) => ((watchbillref01_Trim k t1).bind fun (t3 : Str) => some t3))
theorem watchbillref17_text.ok {k : Nat} {a0 : T_api_Node} {r : Str} (H : watchbillref17_text k a0 = some r) : Vx.Fn Try.prog 59 [(.agg (e_api_Node a0))] [] (S r) [] := by
  unfold watchbillref17_text at H
  refine Vx.Fn.of_okR Try.func59 rfl (Nat.le_of_ble_eq_true rfl) ?_
  refine Ok.seq ?_
  refine Ok.region (σ' := ⟨[(1, (.bref 1 0))], [(1, (.box .ex (c_api_Node a0)))]⟩) ?_ ?_
  · refine OpsOk.cut1 0 (.agg [(.v (.int .i64 a0.Kind)), (S a0.Name.Space), (S a0.Name.Local), (L 3 e_api_Attr a0.Attrs), (L 6 e_api_Node a0.Kids), (S a0.Text)]) (DLe.of_eq (congrArg D.agg (e_api_Node_c _).symm)) ?_
    refine OpsOk.cons rfl (OpOk.box 1 (cells := [(.v (.int .i64 a0.Kind)), (S a0.Name.Space), (S a0.Name.Local), (L 3 e_api_Attr a0.Attrs), (L 6 e_api_Node a0.Kids), (S a0.Text)]) rfl rfl rfl rfl) ?_
    refine .cv (VOk.asg (d := (S ([] : Str))) rfl rfl) rfl rfl ?_
    exact .done (.rf rfl rfl)
  refine Ok.seq ?_
  obtain ⟨t1, h2, H⟩ := bindE H
  obtain ⟨t3, h4, H⟩ := bindE H
  refine Ok.region (σ' := ⟨[(2, (S t3))], []⟩) ?_ ?_
  · refine .cv (VOk.to (d' := (.agg (e_api_Node a0))) (.loadBAgg rfl Try.underlying27 rfl sz27 rfl rfl rfl) (congrArg D.agg (e_api_Node_c a0).symm)) rfl rfl ?_
    refine .cg (GOk.call rfl rfl cl76 rfl (watchbillref04_Value.ok h2) rfl) rfl rfl ?_
    refine .cg (GOk.call rfl rfl cl53 rfl (watchbillref01_Trim.ok h4) rfl) rfl rfl ?_
    refine .cv (VOk.asg (d := (S t3)) rfl rfl) rfl rfl ?_
    exact .done (.rf rfl rfl)
  refine Ok.ret ?_
  obtain rfl := Option.some.inj H
  exact ⟨.inl rfl, ⟨_, (.cons (.tmp rfl) .nil), rfl⟩, trivial⟩

/-! watchbill/watchbillref17.says: function 57 -/
def watchbillref17_says (k : Nat) (a0 : T_api_Node) (a1 : Str) : Option Bool := ((watchbillref16_Is a0 ([117, 114, 110, 58, 105, 101, 116, 102, 58, 112, 97, 114, 97, 109, 115, 58, 120, 109, 108, 58, 110, 115, 58, 114, 108, 115, 45, 115, 101, 114, 118, 105, 99, 101, 115] : Str) a1).bind fun (t1 : Bool) => (((if (t1 == true) = true then watchbillref16_Kids k a0 ([117, 114, 110, 58, 105, 101, 116, 102, 58, 112, 97, 114, 97, 109, 115, 58, 120, 109, 108, 58, 110, 115, 58, 114, 108, 115, 45, 115, 101, 114, 118, 105, 99, 101, 115] : Str) else some default)).bind fun (t4 : (List T_api_Node)) => (((if ((t1 && ((t4.length : Int) == 0)) == true) = true then watchbillref17_text k a0 else some default)).bind fun (t8 : Str) => some ((t1 && ((t4.length : Int) == 0)) && (!(t8 == ([] : Str)))))))
theorem watchbillref17_says.ok {k : Nat} {a0 : T_api_Node} {a1 : Str} {r : Bool} (H : watchbillref17_says k a0 a1 = some r) : Vx.Fn Try.prog 57 [(.agg (e_api_Node a0)), (S a1)] [] (.v (.bool r)) [] := by
  unfold watchbillref17_says at H
  refine Vx.Fn.of_okR Try.func57 rfl (Nat.le_of_ble_eq_true rfl) ?_
  refine Ok.seq ?_
  refine Ok.region (σ' := ⟨[(1, (S a1)), (2, (.bref 2 0))], [(2, (.box .ex (c_api_Node a0)))]⟩) ?_ ?_
  · refine OpsOk.cut1 0 (.agg [(.v (.int .i64 a0.Kind)), (S a0.Name.Space), (S a0.Name.Local), (L 3 e_api_Attr a0.Attrs), (L 6 e_api_Node a0.Kids), (S a0.Text)]) (DLe.of_eq (congrArg D.agg (e_api_Node_c _).symm)) ?_
    refine OpsOk.cons rfl (OpOk.box 2 (cells := [(.v (.int .i64 a0.Kind)), (S a0.Name.Space), (S a0.Name.Local), (L 3 e_api_Attr a0.Attrs), (L 6 e_api_Node a0.Kids), (S a0.Text)]) rfl rfl rfl rfl) ?_
    refine .cv (VOk.asg (d := (.v (.bool false))) rfl rfl) rfl rfl ?_
    exact .done (.rf rfl rfl)
  refine Ok.seq ?_
  obtain ⟨t1, h2, H⟩ := bindE H
  obtain ⟨t4, h5, H⟩ := bindE H
  obtain ⟨t8, h9, H⟩ := bindE H
  refine Ok.region (σ' := ⟨[(4, (.v (.bool ((t1 && ((t4.length : Int) == 0)) && (!(t8 == ([] : Str)))))))], []⟩) ?_ ?_
  · refine .cv (VOk.to (d' := (.agg (e_api_Node a0))) (.loadBAgg rfl Try.underlying27 rfl sz27 rfl rfl rfl) (congrArg D.agg (e_api_Node_c a0).symm)) rfl rfl ?_
    refine .cv (VOk.mv (d := (S a1)) rfl rfl) rfl rfl ?_
    refine .cg (GOk.call rfl rfl cl28 rfl (watchbillref16_Is.ok h2) rfl) rfl rfl ?_
    refine .cv (VOk.mv (d := (.v (.bool t1))) rfl rfl) rfl rfl ?_
    refine OpsOk.consI rfl rfl rfl (.one rfl) rfl (fun hw3 => (VOk.g (VOk.to (d' := (.agg (e_api_Node a0))) (.loadBAgg rfl Try.underlying27 rfl sz27 rfl rfl rfl) (congrArg D.agg (e_api_Node_c a0).symm)))) ?_
    refine OpsOk.consI rfl rfl rfl (.one rfl) rfl (fun hw3 => (GOk.fr (fr' := [(9, (.agg (e_api_Node a0)))]) ⟨DLe.of_eq (cT hw3).symm, trivial⟩ (GOk.call rfl rfl cl30 rfl (watchbillref16_Kids.ok (ifT h5 hw3)) rfl))) ?_
    refine OpsOk.consI rfl rfl rfl (.one rfl) rfl (fun hw3 => (GOk.fr (fr' := [(10, (L 6 e_api_Node t4))]) ⟨DLe.of_eq (cT hw3).symm, trivial⟩ (VOk.g (VOk.lenL (e := e_api_Node) (xs := t4) rfl Try.underlying25 rfl)))) ?_
    refine OpsOk.consI rfl rfl rfl (.one rfl) rfl (fun hw3 => (GOk.fr (fr' := [(11, (.v (.int .i64 (t4.length : Int))))]) ⟨DLe.of_eq (cT hw3).symm, trivial⟩ (VOk.g (VOk.arith (op := .eql) (k := .i64) (a := (t4.length : Int)) (b := 0) rfl rfl rfl rfl)))) ?_
    refine .cv (VOk.to (VOk.pickI (b := t1) (p := ((t4.length : Int) == 0)) (q := false) rfl rfl (fun hp6 => (cT (t_beq hp6))) (fun hp6 => rfl)) (pickAnd t1 ((t4.length : Int) == 0))) rfl rfl ?_
    refine .cv (VOk.mv (d := (.v (.bool (t1 && ((t4.length : Int) == 0))))) rfl rfl) rfl rfl ?_
    refine OpsOk.consI rfl rfl rfl (.one rfl) rfl (fun hw7 => (VOk.g (VOk.to (d' := (.agg (e_api_Node a0))) (.loadBAgg rfl Try.underlying27 rfl sz27 rfl rfl rfl) (congrArg D.agg (e_api_Node_c a0).symm)))) ?_
    refine OpsOk.consI rfl rfl rfl (.one rfl) rfl (fun hw7 => (GOk.fr (fr' := [(15, (.agg (e_api_Node a0)))]) ⟨DLe.of_eq (cT hw7).symm, trivial⟩ (GOk.call rfl rfl cl59 rfl (watchbillref17_text.ok (ifT h9 hw7)) rfl))) ?_
    refine OpsOk.consI rfl rfl rfl (.one rfl) rfl (fun hw7 => (GOk.fr (fr' := [(16, (S t8))]) ⟨DLe.of_eq (cT hw7).symm, trivial⟩ (VOk.g (VOk.strOp (op := .neq) (a := t8) (b := ([] : Str)) rfl rfl rfl rfl)))) ?_
    refine .cv (VOk.to (VOk.pickI (b := (t1 && ((t4.length : Int) == 0))) (p := (!(t8 == ([] : Str)))) (q := false) rfl rfl (fun hp10 => (cT (t_beq hp10))) (fun hp10 => rfl)) (pickAnd (t1 && ((t4.length : Int) == 0)) (!(t8 == ([] : Str))))) rfl rfl ?_
    refine .cv (VOk.asg (d := (.v (.bool ((t1 && ((t4.length : Int) == 0)) && (!(t8 == ([] : Str))))))) rfl rfl) rfl rfl ?_
    exact .done (.rf rfl rfl)
  refine Ok.ret ?_
  obtain rfl := Option.some.inj H
  exact ⟨.inl rfl, ⟨_, (.cons (.tmp rfl) .nil), rfl⟩, trivial⟩

end Go.Proofs.Ytannhioamkkdnaa.Sh
