import Derived.Test.YtannhioamkkdnaaProg
import Derived.Test.YtannhioamkkdnaaShb
namespace Go.Proofs.Ytannhioamkkdnaa.Sh
open Go Go.RowKit Go.Proofs.Vx
set_option linter.unusedVariables false

set_option maxRecDepth 100000
set_option maxHeartbeats 1000000
/-! watchbill/services.Decode: function 10 -/
def services_Decode.l0 (k : Nat) (a0 : T_api_Node) : Nat → List T_api_Service → Int → Bool → Option ((List T_api_Service) × Int)
  | 0, _, _, _ => none
  | m11 + 1, y4_7, x23_6, x5_5 => (if (decide (x23_6 < (a0.Kids.length : Int))) = true then (if (0 : Int) ≤ x23_6 ∧ x23_6 < (a0.Kids.length : Int) then (((if ((((rd a0.Kids x23_6).Kind) == 2) == true) = true then utf_Trim k ((rd a0.Kids x23_6).Text) else some default)).bind fun (t14 : Str) => (if ((((rd a0.Kids x23_6).Kind) == 2) && (!(t14 == ([] : Str)))) = true then some (([] : List T_api_Service), 40) else (((if ((((rd a0.Kids x23_6).Kind) != 1) == false) = true then services_own ([] : Str) else some default)).bind fun (t18 : T_api_Name) => (if ((((rd a0.Kids x23_6).Kind) != 1) || (!(((rd a0.Kids x23_6).Name.Space) == t18.Space))) = true then services_Decode.l0 k a0 m11 y4_7 (IntKind.i64.wrap (x23_6 + 1)) x5_5 else ((services_service k (rd a0.Kids x23_6)).bind fun (t21 : T_api_Service × Bool × Bool) => (if (!t21.2.2) = true then some (([] : List T_api_Service), 40) else (if (y4_7.length + ([t21.1] : List T_api_Service).length) * 88 ≤ 140737488355328 then services_Decode.l0 k a0 m11 (y4_7 ++ ([t21.1] : List T_api_Service)) (IntKind.i64.wrap (x23_6 + 1)) (x5_5 && t21.2.1) else none))))))) else none) else (((if ((!x5_5) == false) = true then services_distinct k y4_7 else some default)).bind fun (t30 : Bool) => (if ((!x5_5) || (!t30)) = true then some (([] : List T_api_Service), 41) else some (y4_7, 0))))
def services_Decode (k : Nat) (a0 : T_api_Node) : Option ((List T_api_Service) × Int) := (((if ((a0.Kind != 1) == false) = true then services_own ([114, 108, 115, 45, 115, 101, 114, 118, 105, 99, 101, 115] : Str) else some default)).bind fun (t2 : T_api_Name) => (if ((a0.Kind != 1) || (!(a0.Name.Space == t2.Space && (a0.Name.Local == t2.Local && true)))) = true then some (([] : List T_api_Service), 40) else services_Decode.l0 k a0 k ([] : List T_api_Service) 0 true))
theorem services_Decode.ok {k : Nat} {a0 : T_api_Node} {r : (List T_api_Service) × Int} (H : services_Decode k a0 = some r) : Vx.Fn Try.prog 10 [(.agg (e_api_Node a0))] [] (.tup [(L 5 e_api_Service r.1), (.v (.int .i64 r.2))]) [] := by
  unfold services_Decode at H
  refine Vx.Fn.of_okR Try.func10 rfl (Nat.le_of_ble_eq_true rfl) ?_
  refine Ok.seq ?_
  refine Ok.region (σ' := ⟨[(1, (.bref 1 0))], [(1, (.box .ex (c_api_Node a0)))]⟩) ?_ ?_
  · refine OpsOk.cut1 0 (.agg [(.v (.int .i64 a0.Kind)), (S a0.Name.Space), (S a0.Name.Local), (L 3 e_api_Attr a0.Attrs), (L 6 e_api_Node a0.Kids), (S a0.Text)]) (DLe.of_eq (congrArg D.agg (e_api_Node_c _).symm)) ?_
    refine OpsOk.cons rfl (OpOk.box 1 (cells := [(.v (.int .i64 a0.Kind)), (S a0.Name.Space), (S a0.Name.Local), (L 3 e_api_Attr a0.Attrs), (L 6 e_api_Node a0.Kids), (S a0.Text)]) rfl rfl rfl rfl) ?_
    refine .cv (VOk.asg (d := (.v (.slice none 0 0))) rfl rfl) rfl rfl ?_
    refine .cv (VOk.asg (d := (.v (.int .i64 0))) rfl rfl) rfl rfl ?_
    exact .done (.rf rfl rfl)
  refine Ok.seq ?_
  refine Ok.seq ?_
  obtain ⟨t2, h3, H⟩ := bindE H
  refine Ok.drawE (σ' := ⟨[(1, (.bref 1 0)), (19, (.v (.bool ((a0.Kind != 1) || (!(a0.Name.Space == t2.Space && (a0.Name.Local == t2.Local && true)))))))], [(1, (.box .ex (c_api_Node a0)))]⟩) [⟨true, [(1, (.bref 1 0))], (.bref 1 0)⟩, ⟨true, [(11, (.bref 1 0))], (.v (.int .i64 a0.Kind))⟩, ⟨true, [(12, (.v (.int .i64 a0.Kind)))], (.v (.bool (a0.Kind != 1)))⟩, ⟨true, [(13, (.v (.bool (a0.Kind != 1))))], (.v (.bool (a0.Kind != 1)))⟩, It.I ((a0.Kind != 1) == false) [(1, (.bref 1 0)), (14, (.v (.bool (a0.Kind != 1))))] (.bref 1 1), It.I ((a0.Kind != 1) == false) [(15, (bif ((a0.Kind != 1) == false) then (.bref 1 1) else .v undef)), (14, (.v (.bool (a0.Kind != 1))))] (.agg (e_api_Name a0.Name)), It.I ((a0.Kind != 1) == false) [(14, (.v (.bool (a0.Kind != 1))))] (.agg (e_api_Name t2)), It.I ((a0.Kind != 1) == false) [(16, (bif ((a0.Kind != 1) == false) then (.agg (e_api_Name a0.Name)) else .v undef)), (17, (bif ((a0.Kind != 1) == false) then (.agg (e_api_Name t2)) else .v undef)), (14, (.v (.bool (a0.Kind != 1))))] (.v (.bool (!(a0.Name.Space == t2.Space && (a0.Name.Local == t2.Local && true))))), ⟨true, [(14, (.v (.bool (a0.Kind != 1)))), (18, (bif ((a0.Kind != 1) == false) then (.v (.bool (!(a0.Name.Space == t2.Space && (a0.Name.Local == t2.Local && true))))) else .v undef))], (.v (.bool ((a0.Kind != 1) || (!(a0.Name.Space == t2.Space && (a0.Name.Local == t2.Local && true))))))⟩] [[], [0], [1], [2], [3], [3, 4], [3], [3, 5, 6], [3, 7]] mixed (by kernel_rfl) ?_ ?_
  · refine TxtE.cons rfl ⟨.same _, trivial⟩ rfl (VOk.g (VOk.to (VOk.fieldB rfl Try.underlying27 rfl sz3 rfl rfl) rfl)) ?_
    refine TxtE.cons rfl ⟨.same _, trivial⟩ rfl (VOk.g (VOk.loadB (d := (.v (.int .i64 a0.Kind))) rfl Try.underlying3 rfl rfl rfl rfl)) ?_
    refine TxtE.cons rfl ⟨.same _, trivial⟩ rfl (VOk.g (VOk.arith (op := .neq) (k := .i64) (a := a0.Kind) (b := 1) rfl rfl rfl rfl)) ?_
    refine TxtE.cons rfl ⟨.same _, trivial⟩ rfl (VOk.g (VOk.mv (d := (.v (.bool (a0.Kind != 1)))) rfl rfl)) ?_
    refine TxtE.consI rfl ⟨.same _, .same _, trivial⟩ rfl rfl (.one rfl) (fun hw1 => (VOk.g (VOk.to (VOk.fieldB rfl Try.underlying27 rfl sz23 rfl rfl) rfl))) ?_
    refine TxtE.consI rfl ⟨.same _, .same _, trivial⟩ rfl rfl (.one rfl) (fun hw1 => (GOk.fr (fr' := [(15, (.bref 1 1))]) ⟨DLe.of_eq (cT hw1).symm, trivial⟩ (VOk.g (VOk.to (d' := (.agg (e_api_Name a0.Name))) (.loadBAgg rfl Try.underlying23 rfl sz23 rfl rfl rfl) rfl)))) ?_
    refine TxtE.consI rfl ⟨.same _, trivial⟩ rfl rfl (.one rfl) (fun hw1 => (GOk.call rfl rfl cl24 rfl (services_own.ok (ifT h3 hw1)) rfl)) ?_
    refine TxtE.consI rfl ⟨.same _, .same _, .same _, trivial⟩ rfl rfl (.one rfl) (fun hw1 => (GOk.fr (fr' := [(16, (.agg (e_api_Name a0.Name))), (17, (.agg (e_api_Name t2)))]) ⟨DLe.of_eq (cT hw1).symm, DLe.of_eq (cT hw1).symm, trivial⟩ (VOk.g (VOk.eqS' (op := .neq) (d := (.v (.bool (!(a0.Name.Space == t2.Space && (a0.Name.Local == t2.Local && true)))))) rfl (.inr rfl) (eqt23 9998) ag23 eg23 rfl rfl rfl rfl)))) ?_
    refine TxtE.cons rfl ⟨.same _, .same _, trivial⟩ rfl (VOk.g (VOk.to (VOk.pickI (b := (a0.Kind != 1)) (p := true) (q := (!(a0.Name.Space == t2.Space && (a0.Name.Local == t2.Local && true)))) rfl rfl (fun hp4 => rfl) (fun hp4 => (cT (f_beq hp4)))) (pickOr (a0.Kind != 1) (!(a0.Name.Space == t2.Space && (a0.Name.Local == t2.Local && true)))))) ?_
    exact .done (.rf rfl rfl)
  refine Ok.test (b := ((a0.Kind != 1) || (!(a0.Name.Space == t2.Space && (a0.Name.Local == t2.Local && true))))) rfl (fun hb35 => ?_) (fun hb35 => ?_)
  · replace H := ifT H hb35
    refine Ok.seq ?_
    refine Ok.region (σ' := ⟨[(2, (.v (.slice none 0 0))), (3, (.v (.int .i64 40)))], []⟩) ?_ ?_
    · refine .cv (VOk.asg (d := (.v (.slice none 0 0))) rfl rfl) rfl rfl ?_
      refine .cv (VOk.asg (d := (.v (.int .i64 40))) rfl rfl) rfl rfl ?_
      exact .done (.rf rfl rfl)
    refine Ok.le (σ' := ⟨[(2, (L 5 e_api_Service ([] : List T_api_Service))), (3, (.v (.int .i64 40)))], []⟩) (.mk ⟨.nil _, .same _, trivial⟩ trivial) ?_
    refine Ok.ret ?_
    obtain rfl := Option.some.inj H
    exact ⟨.inl rfl, ⟨_, (.cons (.tmp rfl) (.cons (.tmp rfl) .nil)), rfl⟩, trivial⟩
  · replace H := ifF H hb35
    refine Ok.skip ?_
    refine Ok.seq ?_
    refine Ok.region (σ' := ⟨[(1, (.bref 1 0)), (4, (.sref 4))], [(1, (.box .ex (c_api_Node a0))), (4, (.rows true 39 5 (([] : List T_api_Service).map e_api_Service)))]⟩) ?_ ?_
    · refine OpsOk.cons rfl (.nilT 4 39 5 (.inl rfl) rfl rfl) ?_
      exact .done (.rf rfl rfl)
    refine Ok.seq ?_
    refine Ok.region (σ' := ⟨[(1, (.bref 1 0)), (4, (.sref 4)), (5, (.v (.bool true)))], [(1, (.box .ex (c_api_Node a0))), (4, (.rows true 39 5 (([] : List T_api_Service).map e_api_Service)))]⟩) ?_ ?_
    · refine .cv (VOk.asg (d := (.v (.bool true))) rfl rfl) rfl rfl ?_
      exact .done (.rf rfl rfl)
    refine Ok.seq ?_
    refine Ok.seq ?_
    refine Ok.region (σ' := ⟨[(4, (.sref 4)), (5, (.v (.bool true))), (21, (L 6 e_api_Node a0.Kids)), (22, (.v (.int .i64 (a0.Kids.length : Int)))), (23, (.v (.int .i64 0)))], [(4, (.rows true 39 5 (([] : List T_api_Service).map e_api_Service)))]⟩) ?_ ?_
    · refine .cv (VOk.to (VOk.fieldB rfl Try.underlying27 rfl sz25 rfl rfl) rfl) rfl rfl ?_
      refine .cv (VOk.loadB (d := (L 6 e_api_Node a0.Kids)) rfl Try.underlying25 rfl rfl rfl rfl) rfl rfl ?_
      refine .cv (VOk.lenL (e := e_api_Node) (xs := a0.Kids) rfl Try.underlying25 rfl) rfl rfl ?_
      refine .cv (VOk.mv (d := (.v (.int .i64 0))) rfl rfl) rfl rfl ?_
      exact .done (.rf rfl rfl)
    refine Ok.block ?_
    refine Ok.le (σ' := ⟨[(4, (.sref 4)), (5, (.v (.bool true))), (21, (L 6 e_api_Node a0.Kids)), (22, (.v (.int .i64 (a0.Kids.length : Int)))), (23, (.v (.int .i64 0)))], [(4, (.rows true 39 5 (([] : List T_api_Service).map e_api_Service)))]⟩) (.rf rfl rfl) ?_
    refine Ok.loop (fun m11 σ => ∃ (y4_7 : List T_api_Service) (x23_6 : Int) (x5_5 : Bool), σ = ⟨[(4, (.sref 4)), (5, (.v (.bool x5_5))), (21, (L 6 e_api_Node a0.Kids)), (22, (.v (.int .i64 (a0.Kids.length : Int)))), (23, (.v (.int .i64 x23_6)))], [(4, (.rows true 39 5 (y4_7.map e_api_Service)))]⟩ ∧ services_Decode.l0 k a0 m11 y4_7 x23_6 x5_5 = some r) k ⟨([] : List T_api_Service), 0, true, rfl, H⟩ ?_
    rintro m11 σ ⟨y4_7, x23_6, x5_5, rfl, H⟩
    cases m11 with
    | zero => exact absurd H (by simp [services_Decode.l0])
    | succ m11 =>
      unfold services_Decode.l0 at H
      refine Ok.seq ?_
      refine Ok.region (σ' := ⟨[(4, (.sref 4)), (5, (.v (.bool x5_5))), (21, (L 6 e_api_Node a0.Kids)), (22, (.v (.int .i64 (a0.Kids.length : Int)))), (23, (.v (.int .i64 x23_6))), (24, (.v (.bool (decide (x23_6 < (a0.Kids.length : Int))))))], [(4, (.rows true 39 5 (y4_7.map e_api_Service)))]⟩) ?_ ?_
      · refine .cv (VOk.arith (op := .lss) (k := .i64) (a := x23_6) (b := (a0.Kids.length : Int)) rfl rfl rfl rfl) rfl rfl ?_
        exact .done (.rf rfl rfl)
      refine Ok.seq ?_
      refine Ok.test (b := (decide (x23_6 < (a0.Kids.length : Int)))) rfl (fun hb34 => ?_) (fun hb34 => ?_)
      · replace H := ifT H hb34
        refine Ok.skip ?_
        refine Ok.seq ?_
        refine Ok.block ?_
        refine Ok.seq ?_
        obtain ⟨c12, H⟩ := assertE H
        refine Ok.region (σ' := ⟨[(4, (.sref 4)), (5, (.v (.bool x5_5))), (7, (.bref 7 0)), (21, (L 6 e_api_Node a0.Kids)), (22, (.v (.int .i64 (a0.Kids.length : Int)))), (23, (.v (.int .i64 x23_6)))], [(4, (.rows true 39 5 (y4_7.map e_api_Service))), (7, (.box .ex (c_api_Node (rd a0.Kids x23_6))))]⟩) ?_ ?_
        · refine .cv (VOk.indexL (sz := 6) (e := e_api_Node) (xs := a0.Kids) (i := x23_6) rfl Try.underlying25 sz27 rfl rfl c12) rfl rfl ?_
          refine .cv (VOk.to (d' := (.agg (e_api_Node (rd a0.Kids x23_6)))) (.loadFpAgg rfl Try.underlying27 rfl sz27 rfl rfl) rfl) rfl rfl ?_
          refine OpsOk.cons rfl (OpOk.alloc 7 [none, none, none, some 3, some 6, none] rfl zo27 rfl rfl) ?_
          refine OpsOk.cut1 26 (.agg [(.v (.int .i64 ((rd a0.Kids x23_6).Kind))), (S ((rd a0.Kids x23_6).Name.Space)), (S ((rd a0.Kids x23_6).Name.Local)), (L 3 e_api_Attr ((rd a0.Kids x23_6).Attrs)), (L 6 e_api_Node ((rd a0.Kids x23_6).Kids)), (S ((rd a0.Kids x23_6).Text))]) (DLe.of_eq (congrArg D.agg (e_api_Node_c _).symm)) ?_
          refine OpsOk.cons rfl (OpOk.to (σ2 := St.put ⟨_, (7, (.box .ex (c_api_Node (rd a0.Kids x23_6)))) :: _⟩ _ .junk) (.storeB rfl sz27 rfl rfl rfl rfl rfl rfl) rfl) ?_
          exact .done (.rf rfl rfl)
        refine Ok.seq ?_
        refine Ok.block ?_
        refine Ok.seq ?_
        obtain ⟨t14, h15, H⟩ := bindE H
        refine Ok.region (σ' := ⟨[(4, (.sref 4)), (5, (.v (.bool x5_5))), (7, (.bref 7 0)), (21, (L 6 e_api_Node a0.Kids)), (22, (.v (.int .i64 (a0.Kids.length : Int)))), (23, (.v (.int .i64 x23_6))), (27, (.v (.bool ((((rd a0.Kids x23_6).Kind) == 2) && (!(t14 == ([] : Str)))))))], [(4, (.rows true 39 5 (y4_7.map e_api_Service))), (7, (.box .ex (c_api_Node (rd a0.Kids x23_6))))]⟩) ?_ ?_
        · refine .cv (VOk.to (VOk.fieldB rfl Try.underlying27 rfl sz3 rfl rfl) rfl) rfl rfl ?_
          refine .cv (VOk.loadB (d := (.v (.int .i64 ((rd a0.Kids x23_6).Kind)))) rfl Try.underlying3 rfl rfl rfl rfl) rfl rfl ?_
          refine .cv (VOk.arith (op := .eql) (k := .i64) (a := (rd a0.Kids x23_6).Kind) (b := 2) rfl rfl rfl rfl) rfl rfl ?_
          refine .cv (VOk.mv (d := (.v (.bool (((rd a0.Kids x23_6).Kind) == 2)))) rfl rfl) rfl rfl ?_
          refine OpsOk.consI rfl rfl rfl (.one rfl) rfl (fun hw13 => (VOk.g (VOk.to (VOk.fieldB rfl Try.underlying27 rfl sz9 rfl rfl) rfl))) ?_
          refine OpsOk.consI rfl rfl rfl (.one rfl) rfl (fun hw13 => (GOk.fr (fr' := [(32, (.bref 7 5))]) ⟨DLe.of_eq (cT hw13).symm, trivial⟩ (VOk.g (VOk.loadB (d := (S ((rd a0.Kids x23_6).Text))) rfl Try.underlying9 rfl rfl rfl rfl)))) ?_
          refine OpsOk.consI rfl rfl rfl (.one rfl) rfl (fun hw13 => (GOk.fr (fr' := [(33, (S ((rd a0.Kids x23_6).Text)))]) ⟨DLe.of_eq (cT hw13).symm, trivial⟩ (GOk.call rfl rfl cl25 rfl (utf_Trim.ok (ifT h15 hw13)) rfl))) ?_
          refine OpsOk.consI rfl rfl rfl (.one rfl) rfl (fun hw13 => (GOk.fr (fr' := [(34, (S t14))]) ⟨DLe.of_eq (cT hw13).symm, trivial⟩ (VOk.g (VOk.strOp (op := .neq) (a := t14) (b := ([] : Str)) rfl rfl rfl rfl)))) ?_
          refine .cv (VOk.to (VOk.pickI (b := (((rd a0.Kids x23_6).Kind) == 2)) (p := (!(t14 == ([] : Str)))) (q := false) rfl rfl (fun hp16 => (cT (t_beq hp16))) (fun hp16 => rfl)) (pickAnd (((rd a0.Kids x23_6).Kind) == 2) (!(t14 == ([] : Str))))) rfl rfl ?_
          refine .cv (VOk.asg (d := (.v (.bool ((((rd a0.Kids x23_6).Kind) == 2) && (!(t14 == ([] : Str))))))) rfl rfl) rfl rfl ?_
          exact .done (.rf rfl rfl)
        refine Ok.test (b := ((((rd a0.Kids x23_6).Kind) == 2) && (!(t14 == ([] : Str))))) rfl (fun hb28 => ?_) (fun hb28 => ?_)
        · replace H := ifT H hb28
          refine Ok.seq ?_
          refine Ok.region (σ' := ⟨[(2, (.v (.slice none 0 0))), (3, (.v (.int .i64 40)))], []⟩) ?_ ?_
          · refine .cv (VOk.asg (d := (.v (.slice none 0 0))) rfl rfl) rfl rfl ?_
            refine .cv (VOk.asg (d := (.v (.int .i64 40))) rfl rfl) rfl rfl ?_
            exact .done (.rf rfl rfl)
          refine Ok.le (σ' := ⟨[(2, (L 5 e_api_Service ([] : List T_api_Service))), (3, (.v (.int .i64 40)))], []⟩) (.mk ⟨.nil _, .same _, trivial⟩ trivial) ?_
          refine Ok.ret ?_
          obtain rfl := Option.some.inj H
          exact ⟨.inl rfl, ⟨_, (.cons (.tmp rfl) (.cons (.tmp rfl) .nil)), rfl⟩, trivial⟩
        · replace H := ifF H hb28
          refine Ok.seq ?_
          obtain ⟨t18, h19, H⟩ := bindE H
          refine Ok.drawE (σ' := ⟨[(4, (.sref 4)), (5, (.v (.bool x5_5))), (7, (.bref 7 0)), (21, (L 6 e_api_Node a0.Kids)), (22, (.v (.int .i64 (a0.Kids.length : Int)))), (23, (.v (.int .i64 x23_6))), (37, (.v (.bool ((((rd a0.Kids x23_6).Kind) != 1) || (!(((rd a0.Kids x23_6).Name.Space) == t18.Space))))))], [(4, (.rows true 39 5 (y4_7.map e_api_Service))), (7, (.box .ex (c_api_Node (rd a0.Kids x23_6))))]⟩) [⟨true, [(7, (.bref 7 0))], (.bref 7 0)⟩, ⟨true, [(38, (.bref 7 0))], (.v (.int .i64 ((rd a0.Kids x23_6).Kind)))⟩, ⟨true, [(39, (.v (.int .i64 ((rd a0.Kids x23_6).Kind))))], (.v (.bool (((rd a0.Kids x23_6).Kind) != 1)))⟩, ⟨true, [(40, (.v (.bool (((rd a0.Kids x23_6).Kind) != 1))))], (.v (.bool (((rd a0.Kids x23_6).Kind) != 1)))⟩, It.I ((((rd a0.Kids x23_6).Kind) != 1) == false) [(7, (.bref 7 0)), (41, (.v (.bool (((rd a0.Kids x23_6).Kind) != 1))))] (.bref 7 1), It.I ((((rd a0.Kids x23_6).Kind) != 1) == false) [(42, (bif ((((rd a0.Kids x23_6).Kind) != 1) == false) then (.bref 7 1) else .v undef)), (41, (.v (.bool (((rd a0.Kids x23_6).Kind) != 1))))] (.bref 7 1), It.I ((((rd a0.Kids x23_6).Kind) != 1) == false) [(43, (bif ((((rd a0.Kids x23_6).Kind) != 1) == false) then (.bref 7 1) else .v undef)), (41, (.v (.bool (((rd a0.Kids x23_6).Kind) != 1))))] (S ((rd a0.Kids x23_6).Name.Space)), It.I ((((rd a0.Kids x23_6).Kind) != 1) == false) [(41, (.v (.bool (((rd a0.Kids x23_6).Kind) != 1))))] (.agg (e_api_Name t18)), It.I ((((rd a0.Kids x23_6).Kind) != 1) == false) [(45, (bif ((((rd a0.Kids x23_6).Kind) != 1) == false) then (.agg (e_api_Name t18)) else .v undef)), (41, (.v (.bool (((rd a0.Kids x23_6).Kind) != 1))))] (S t18.Space), It.I ((((rd a0.Kids x23_6).Kind) != 1) == false) [(44, (bif ((((rd a0.Kids x23_6).Kind) != 1) == false) then (S ((rd a0.Kids x23_6).Name.Space)) else .v undef)), (46, (bif ((((rd a0.Kids x23_6).Kind) != 1) == false) then (S t18.Space) else .v undef)), (41, (.v (.bool (((rd a0.Kids x23_6).Kind) != 1))))] (.v (.bool (!(((rd a0.Kids x23_6).Name.Space) == t18.Space)))), ⟨true, [(41, (.v (.bool (((rd a0.Kids x23_6).Kind) != 1)))), (47, (bif ((((rd a0.Kids x23_6).Kind) != 1) == false) then (.v (.bool (!(((rd a0.Kids x23_6).Name.Space) == t18.Space)))) else .v undef))], (.v (.bool ((((rd a0.Kids x23_6).Kind) != 1) || (!(((rd a0.Kids x23_6).Name.Space) == t18.Space)))))⟩, ⟨true, [(48, (.v (.bool ((((rd a0.Kids x23_6).Kind) != 1) || (!(((rd a0.Kids x23_6).Name.Space) == t18.Space))))))], (.v (.bool ((((rd a0.Kids x23_6).Kind) != 1) || (!(((rd a0.Kids x23_6).Name.Space) == t18.Space)))))⟩] [[], [0], [1], [2], [3], [3, 4], [3, 5], [3], [3, 7], [3, 6, 8], [3, 9], [10]] mixed (by kernel_rfl) ?_ ?_
          · refine TxtE.cons rfl ⟨.same _, trivial⟩ rfl (VOk.g (VOk.to (VOk.fieldB rfl Try.underlying27 rfl sz3 rfl rfl) rfl)) ?_
            refine TxtE.cons rfl ⟨.same _, trivial⟩ rfl (VOk.g (VOk.loadB (d := (.v (.int .i64 ((rd a0.Kids x23_6).Kind)))) rfl Try.underlying3 rfl rfl rfl rfl)) ?_
            refine TxtE.cons rfl ⟨.same _, trivial⟩ rfl (VOk.g (VOk.arith (op := .neq) (k := .i64) (a := (rd a0.Kids x23_6).Kind) (b := 1) rfl rfl rfl rfl)) ?_
            refine TxtE.cons rfl ⟨.same _, trivial⟩ rfl (VOk.g (VOk.mv (d := (.v (.bool (((rd a0.Kids x23_6).Kind) != 1)))) rfl rfl)) ?_
            refine TxtE.consI rfl ⟨.same _, .same _, trivial⟩ rfl rfl (.one rfl) (fun hw17 => (VOk.g (VOk.to (VOk.fieldB rfl Try.underlying27 rfl sz23 rfl rfl) rfl))) ?_
            refine TxtE.consI rfl ⟨.same _, .same _, trivial⟩ rfl rfl (.one rfl) (fun hw17 => (GOk.fr (fr' := [(42, (.bref 7 1))]) ⟨DLe.of_eq (cT hw17).symm, trivial⟩ (VOk.g (VOk.to (VOk.fieldB rfl Try.underlying23 rfl sz9 rfl rfl) rfl)))) ?_
            refine TxtE.consI rfl ⟨.same _, .same _, trivial⟩ rfl rfl (.one rfl) (fun hw17 => (GOk.fr (fr' := [(43, (.bref 7 1))]) ⟨DLe.of_eq (cT hw17).symm, trivial⟩ (VOk.g (VOk.loadB (d := (S ((rd a0.Kids x23_6).Name.Space))) rfl Try.underlying9 rfl rfl rfl rfl)))) ?_
            refine TxtE.consI rfl ⟨.same _, trivial⟩ rfl rfl (.one rfl) (fun hw17 => (GOk.call rfl rfl cl24 rfl (services_own.ok (ifT h19 hw17)) rfl)) ?_
            refine TxtE.consI rfl ⟨.same _, .same _, trivial⟩ rfl rfl (.one rfl) (fun hw17 => (GOk.fr (fr' := [(45, (.agg (e_api_Name t18)))]) ⟨DLe.of_eq (cT hw17).symm, trivial⟩ (VOk.g (VOk.field (d := (S t18.Space)) rfl Try.underlying23 rfl Try.underlying9 rfl rfl rfl)))) ?_
            refine TxtE.consI rfl ⟨.same _, .same _, .same _, trivial⟩ rfl rfl (.one rfl) (fun hw17 => (GOk.fr (fr' := [(44, (S ((rd a0.Kids x23_6).Name.Space))), (46, (S t18.Space))]) ⟨DLe.of_eq (cT hw17).symm, DLe.of_eq (cT hw17).symm, trivial⟩ (VOk.g (VOk.strOp (op := .neq) (a := (rd a0.Kids x23_6).Name.Space) (b := t18.Space) rfl rfl rfl rfl)))) ?_
            refine TxtE.cons rfl ⟨.same _, .same _, trivial⟩ rfl (VOk.g (VOk.to (VOk.pickI (b := (((rd a0.Kids x23_6).Kind) != 1)) (p := true) (q := (!(((rd a0.Kids x23_6).Name.Space) == t18.Space))) rfl rfl (fun hp20 => rfl) (fun hp20 => (cT (f_beq hp20)))) (pickOr (((rd a0.Kids x23_6).Kind) != 1) (!(((rd a0.Kids x23_6).Name.Space) == t18.Space))))) ?_
            refine TxtE.cons rfl ⟨.same _, trivial⟩ rfl (VOk.g (VOk.asg (d := (.v (.bool ((((rd a0.Kids x23_6).Kind) != 1) || (!(((rd a0.Kids x23_6).Name.Space) == t18.Space)))))) rfl rfl)) ?_
            exact .done (.rf rfl rfl)
          refine Ok.test (b := ((((rd a0.Kids x23_6).Kind) != 1) || (!(((rd a0.Kids x23_6).Name.Space) == t18.Space)))) rfl (fun hb27 => ?_) (fun hb27 => ?_)
          · replace H := ifT H hb27
            refine Ok.exit ?_
            refine Ok.region (σ' := ⟨[(4, (.sref 4)), (5, (.v (.bool x5_5))), (21, (L 6 e_api_Node a0.Kids)), (22, (.v (.int .i64 (a0.Kids.length : Int)))), (23, (.v (.int .i64 (IntKind.i64.wrap (x23_6 + 1)))))], [(4, (.rows true 39 5 (y4_7.map e_api_Service)))]⟩) ?_ ?_
            · refine .cv (VOk.arith (op := .add) (k := .i64) (a := x23_6) (b := 1) rfl rfl rfl rfl) rfl rfl ?_
              refine .cv (VOk.mv (d := (.v (.int .i64 (IntKind.i64.wrap (x23_6 + 1))))) rfl rfl) rfl rfl ?_
              exact .done (.rf rfl rfl)
            exact ⟨m11, Nat.lt_succ_self m11, y4_7, (IntKind.i64.wrap (x23_6 + 1)), x5_5, rfl, H⟩
          · replace H := ifF H hb27
            refine Ok.skip ?_
            refine Ok.seq ?_
            obtain ⟨t21, h22, H⟩ := bindE H
            refine Ok.region (σ' := ⟨[(4, (.sref 4)), (5, (.v (.bool x5_5))), (8, (.bref 8 0)), (9, (.v (.bool t21.2.1))), (10, (.v (.bool t21.2.2))), (21, (L 6 e_api_Node a0.Kids)), (22, (.v (.int .i64 (a0.Kids.length : Int)))), (23, (.v (.int .i64 x23_6)))], [(4, (.rows true 39 5 (y4_7.map e_api_Service))), (8, (.box .ex (c_api_Service t21.1)))]⟩) ?_ ?_
            · refine .cv (VOk.to (d' := (.agg (e_api_Node (rd a0.Kids x23_6)))) (.loadBAgg rfl Try.underlying27 rfl sz27 rfl rfl rfl) (congrArg D.agg (e_api_Node_c (rd a0.Kids x23_6)).symm)) rfl rfl ?_
              refine .cg (GOk.call rfl rfl cl26 rfl (services_service.ok h22) rfl) rfl rfl ?_
              refine .cv (VOk.mv (d := (.tup [(.agg (e_api_Service t21.1)), (.v (.bool t21.2.1)), (.v (.bool t21.2.2))])) rfl rfl) rfl rfl ?_
              refine .cv (VOk.extract (d := (.agg (e_api_Service t21.1))) rfl rfl rfl) rfl rfl ?_
              refine .cv (VOk.extract (d := (.v (.bool t21.2.1))) rfl rfl rfl) rfl rfl ?_
              refine .cv (VOk.extract (d := (.v (.bool t21.2.2))) rfl rfl rfl) rfl rfl ?_
              refine OpsOk.cons rfl (OpOk.alloc 8 [none, some 4, none, none, some 1] rfl zo39 rfl rfl) ?_
              refine OpsOk.cons rfl (OpOk.to (σ2 := St.put ⟨_, (8, (.box .ex (c_api_Service t21.1))) :: _⟩ _ .junk) (.storeB rfl sz39 rfl rfl rfl rfl rfl rfl) rfl) ?_
              refine .cv (VOk.asg (d := (.v (.bool t21.2.1))) rfl rfl) rfl rfl ?_
              refine .cv (VOk.asg (d := (.v (.bool t21.2.2))) rfl rfl) rfl rfl ?_
              exact .done (.rf rfl rfl)
            refine Ok.seq ?_
            refine Ok.seq ?_
            refine Ok.region (σ' := ⟨[(4, (.sref 4)), (5, (.v (.bool x5_5))), (8, (.bref 8 0)), (9, (.v (.bool t21.2.1))), (21, (L 6 e_api_Node a0.Kids)), (22, (.v (.int .i64 (a0.Kids.length : Int)))), (23, (.v (.int .i64 x23_6))), (56, (.v (.bool (!t21.2.2))))], [(4, (.rows true 39 5 (y4_7.map e_api_Service))), (8, (.box .ex (c_api_Service t21.1)))]⟩) ?_ ?_
            · refine .cv (VOk.mv (d := (.v (.bool t21.2.2))) rfl rfl) rfl rfl ?_
              refine .cv (VOk.not (b := t21.2.2) rfl rfl) rfl rfl ?_
              exact .done (.rf rfl rfl)
            refine Ok.test (b := (!t21.2.2)) rfl (fun hb26 => ?_) (fun hb26 => ?_)
            · replace H := ifT H hb26
              refine Ok.seq ?_
              refine Ok.region (σ' := ⟨[(2, (.v (.slice none 0 0))), (3, (.v (.int .i64 40)))], []⟩) ?_ ?_
              · refine .cv (VOk.asg (d := (.v (.slice none 0 0))) rfl rfl) rfl rfl ?_
                refine .cv (VOk.asg (d := (.v (.int .i64 40))) rfl rfl) rfl rfl ?_
                exact .done (.rf rfl rfl)
              refine Ok.le (σ' := ⟨[(2, (L 5 e_api_Service ([] : List T_api_Service))), (3, (.v (.int .i64 40)))], []⟩) (.mk ⟨.nil _, .same _, trivial⟩ trivial) ?_
              refine Ok.ret ?_
              obtain rfl := Option.some.inj H
              exact ⟨.inl rfl, ⟨_, (.cons (.tmp rfl) (.cons (.tmp rfl) .nil)), rfl⟩, trivial⟩
            · replace H := ifF H hb26
              refine Ok.skip ?_
              obtain ⟨c23, H⟩ := assertE H
              refine Ok.region (σ' := ⟨[(4, (.sref 4)), (5, (.v (.bool (x5_5 && t21.2.1)))), (21, (L 6 e_api_Node a0.Kids)), (22, (.v (.int .i64 (a0.Kids.length : Int)))), (23, (.v (.int .i64 x23_6)))], [(4, (.rows true 39 5 ((y4_7 ++ ([t21.1] : List T_api_Service)).map e_api_Service)))]⟩) ?_ ?_
              · refine .cv (VOk.mv (d := (.sref 4)) rfl rfl) rfl rfl ?_
                refine .cv (VOk.to (d' := (.agg (e_api_Service t21.1))) (.loadBAgg rfl Try.underlying39 rfl sz39 rfl rfl rfl) rfl) rfl rfl ?_
                refine .cg (GOk.to (d' := (L 5 e_api_Service ([t21.1] : List T_api_Service))) (GOk.lit rfl Try.underlying30 sz39 zs39 rfl rfl rfl rfl) rfl) rfl rfl ?_
                refine OpsOk.cons rfl (OpOk.appendL (e := e_api_Service) (xs := y4_7) (ys := ([t21.1] : List T_api_Service)) rfl Try.underlying30 elt39 rfl rfl rfl c23 rfl) ?_
                refine .cv (VOk.mv (d := (.v (.bool x5_5))) rfl rfl) rfl rfl ?_
                refine .cv (VOk.mv (d := (.v (.bool x5_5))) rfl rfl) rfl rfl ?_
                refine OpsOk.consI rfl rfl rfl (.one rfl) rfl (fun hw24 => (VOk.g (VOk.mv (d := (.v (.bool t21.2.1))) rfl rfl))) ?_
                refine .cv (VOk.to (VOk.pickI (b := x5_5) (p := t21.2.1) (q := false) rfl rfl (fun hp25 => (cT (t_beq hp25))) (fun hp25 => rfl)) (pickAnd x5_5 t21.2.1)) rfl rfl ?_
                refine .cv (VOk.asg (d := (.sref 4)) rfl rfl) rfl rfl ?_
                refine .cv (VOk.asg (d := (.v (.bool (x5_5 && t21.2.1)))) rfl rfl) rfl rfl ?_
                exact .done (.rf rfl rfl)
              refine Ok.region (σ' := ⟨[(4, (.sref 4)), (5, (.v (.bool (x5_5 && t21.2.1)))), (21, (L 6 e_api_Node a0.Kids)), (22, (.v (.int .i64 (a0.Kids.length : Int)))), (23, (.v (.int .i64 (IntKind.i64.wrap (x23_6 + 1)))))], [(4, (.rows true 39 5 ((y4_7 ++ ([t21.1] : List T_api_Service)).map e_api_Service)))]⟩) ?_ ?_
              · refine .cv (VOk.arith (op := .add) (k := .i64) (a := x23_6) (b := 1) rfl rfl rfl rfl) rfl rfl ?_
                refine .cv (VOk.mv (d := (.v (.int .i64 (IntKind.i64.wrap (x23_6 + 1))))) rfl rfl) rfl rfl ?_
                exact .done (.rf rfl rfl)
              exact ⟨m11, Nat.lt_succ_self m11, (y4_7 ++ ([t21.1] : List T_api_Service)), (IntKind.i64.wrap (x23_6 + 1)), (x5_5 && t21.2.1), rfl, H⟩
      · replace H := ifF H hb34
        refine Ok.exit ?_
        refine Ok.seq ?_
        refine Ok.seq ?_
        obtain ⟨t30, h31, H⟩ := bindE H
        refine Ok.region (σ' := ⟨[(4, (.sref 4)), (72, (.v (.bool ((!x5_5) || (!t30)))))], [(4, (.rows true 39 5 (y4_7.map e_api_Service)))]⟩) ?_ ?_
        · refine .cv (VOk.mv (d := (.v (.bool x5_5))) rfl rfl) rfl rfl ?_
          refine .cv (VOk.not (b := x5_5) rfl rfl) rfl rfl ?_
          refine .cv (VOk.mv (d := (.v (.bool (!x5_5)))) rfl rfl) rfl rfl ?_
          refine OpsOk.consI rfl rfl rfl (.one rfl) rfl (fun hw29 => (VOk.g (VOk.mv (d := (.sref 4)) rfl rfl))) ?_
          refine OpsOk.consI rfl rfl rfl (.one rfl) rfl (fun hw29 => (GOk.fr (fr' := [(69, (.sref 4))]) ⟨DLe.of_eq (cT hw29).symm, trivial⟩ (GOk.callV rfl rfl cl27 rfl (services_distinct.ok (ifT h31 hw29)) rfl))) ?_
          refine OpsOk.consI rfl rfl rfl (.one rfl) rfl (fun hw29 => (GOk.fr (fr' := [(70, (.v (.bool t30)))]) ⟨DLe.of_eq (cT hw29).symm, trivial⟩ (VOk.g (VOk.not (b := t30) rfl rfl)))) ?_
          refine .cv (VOk.to (VOk.pickI (b := (!x5_5)) (p := true) (q := (!t30)) rfl rfl (fun hp32 => rfl) (fun hp32 => (cT (f_beq hp32)))) (pickOr (!x5_5) (!t30))) rfl rfl ?_
          exact .done (.rf rfl rfl)
        refine Ok.test (b := ((!x5_5) || (!t30))) rfl (fun hb33 => ?_) (fun hb33 => ?_)
        · replace H := ifT H hb33
          refine Ok.seq ?_
          refine Ok.region (σ' := ⟨[(2, (.v (.slice none 0 0))), (3, (.v (.int .i64 41)))], []⟩) ?_ ?_
          · refine .cv (VOk.asg (d := (.v (.slice none 0 0))) rfl rfl) rfl rfl ?_
            refine .cv (VOk.asg (d := (.v (.int .i64 41))) rfl rfl) rfl rfl ?_
            exact .done (.rf rfl rfl)
          refine Ok.le (σ' := ⟨[(2, (L 5 e_api_Service ([] : List T_api_Service))), (3, (.v (.int .i64 41)))], []⟩) (.mk ⟨.nil _, .same _, trivial⟩ trivial) ?_
          refine Ok.ret ?_
          obtain rfl := Option.some.inj H
          exact ⟨.inl rfl, ⟨_, (.cons (.tmp rfl) (.cons (.tmp rfl) .nil)), rfl⟩, trivial⟩
        · replace H := ifF H hb33
          refine Ok.skip ?_
          refine Ok.seq ?_
          refine Ok.region (σ' := ⟨[(2, (.sref 4)), (3, (.v (.int .i64 0)))], [(4, (.rows true 39 5 (y4_7.map e_api_Service)))]⟩) ?_ ?_
          · refine .cv (VOk.mv (d := (.sref 4)) rfl rfl) rfl rfl ?_
            refine .cv (VOk.asg (d := (.sref 4)) rfl rfl) rfl rfl ?_
            refine .cv (VOk.asg (d := (.v (.int .i64 0))) rfl rfl) rfl rfl ?_
            exact .done (.rf rfl rfl)
          refine Ok.frzL 4 (e := e_api_Service) (xs := y4_7) rfl ?_
          refine Ok.ret ?_
          obtain rfl := Option.some.inj H
          exact ⟨.inl rfl, ⟨_, (.cons (.tmp rfl) (.cons (.tmp rfl) .nil)), rfl⟩, trivial⟩

/-! watchbill/services.Find: function 12 -/
def services_Find.l0 (k : Nat) (a0 : List T_api_Service) (a1 : Str) : Nat → Str → List T_api_Entry → Bool → Str → List Str → Int → Option (T_api_Service × Bool)
  | 0, _, _, _, _, _, _ => none
  | m13 + 1, y4_0_2, y4_1_3, y4_2_4, y4_3_5, y4_4_6, x10_1 => (if (decide (x10_1 < (a0.length : Int))) = true then (if (0 : Int) ≤ x10_1 ∧ x10_1 < (a0.length : Int) then (if (((rd a0 x10_1).URI) == a1) = true then some ((rd a0 x10_1), true) else services_Find.l0 k a0 a1 m13 y4_0_2 y4_1_3 y4_2_4 y4_3_5 y4_4_6 (IntKind.i64.wrap (x10_1 + 1))) else none) else some ((T_api_Service.mk ([] : Str) ([] : List T_api_Entry) false ([] : Str) ([] : List Str)), false))
def services_Find (k : Nat) (a0 : List T_api_Service) (a1 : Str) : Option (T_api_Service × Bool) := services_Find.l0 k a0 a1 k ([] : Str) ([] : List T_api_Entry) false ([] : Str) ([] : List Str) 0
theorem services_Find.ok {k : Nat} {a0 : List T_api_Service} {a1 : Str} {r : T_api_Service × Bool} (H : services_Find k a0 a1 = some r) : Vx.Fn Try.prog 12 [(L 5 e_api_Service a0), (S a1)] [] (.tup [(.agg (e_api_Service r.1)), (.v (.bool r.2))]) [] := by
  unfold services_Find at H
  refine Vx.Fn.of_okR Try.func12 rfl (Nat.le_of_ble_eq_true rfl) ?_
  refine Ok.seq ?_
  refine Ok.region (σ' := ⟨[(0, (L 5 e_api_Service a0)), (1, (S a1)), (4, (.bref 4 0))], [(4, (.box .ex [(S ([] : Str)), (L 4 e_api_Entry ([] : List T_api_Entry)), (.v (.bool false)), (S ([] : Str)), (L 1 eS ([] : List Str))]))]⟩) ?_ ?_
  · refine OpsOk.cons rfl (OpOk.alloc 4 [none, some 4, none, none, some 1] rfl zo39 rfl rfl) ?_
    refine .cv (VOk.asg (d := (.v (.bool false))) rfl rfl) rfl rfl ?_
    exact .done (.rf rfl rfl)
  refine Ok.seq ?_
  refine Ok.seq ?_
  refine Ok.region (σ' := ⟨[(1, (S a1)), (4, (.bref 4 0)), (8, (L 5 e_api_Service a0)), (9, (.v (.int .i64 (a0.length : Int)))), (10, (.v (.int .i64 0)))], [(4, (.box .ex [(S ([] : Str)), (L 4 e_api_Entry ([] : List T_api_Entry)), (.v (.bool false)), (S ([] : Str)), (L 1 eS ([] : List Str))]))]⟩) ?_ ?_
  · refine .cv (VOk.mv (d := (L 5 e_api_Service a0)) rfl rfl) rfl rfl ?_
    refine .cv (VOk.lenL (e := e_api_Service) (xs := a0) rfl Try.underlying30 rfl) rfl rfl ?_
    refine .cv (VOk.mv (d := (.v (.int .i64 0))) rfl rfl) rfl rfl ?_
    exact .done (.rf rfl rfl)
  refine Ok.block ?_
  refine Ok.le (σ' := ⟨[(1, (S a1)), (4, (.bref 4 0)), (8, (L 5 e_api_Service a0)), (9, (.v (.int .i64 (a0.length : Int)))), (10, (.v (.int .i64 0)))], [(4, (.box .ex [(S ([] : Str)), (L 4 e_api_Entry ([] : List T_api_Entry)), (.v (.bool false)), (S ([] : Str)), (L 1 eS ([] : List Str))]))]⟩) (.rf rfl rfl) ?_
  refine Ok.loop (fun m13 σ => ∃ (y4_0_2 : Str) (y4_1_3 : List T_api_Entry) (y4_2_4 : Bool) (y4_3_5 : Str) (y4_4_6 : List Str) (x10_1 : Int), σ = ⟨[(1, (S a1)), (4, (.bref 4 0)), (8, (L 5 e_api_Service a0)), (9, (.v (.int .i64 (a0.length : Int)))), (10, (.v (.int .i64 x10_1)))], [(4, (.box .ex [(S y4_0_2), (L 4 e_api_Entry y4_1_3), (.v (.bool y4_2_4)), (S y4_3_5), (L 1 eS y4_4_6)]))]⟩ ∧ services_Find.l0 k a0 a1 m13 y4_0_2 y4_1_3 y4_2_4 y4_3_5 y4_4_6 x10_1 = some r) k ⟨([] : Str), ([] : List T_api_Entry), false, ([] : Str), ([] : List Str), 0, rfl, H⟩ ?_
  rintro m13 σ ⟨y4_0_2, y4_1_3, y4_2_4, y4_3_5, y4_4_6, x10_1, rfl, H⟩
  cases m13 with
  | zero => exact absurd H (by simp [services_Find.l0])
  | succ m13 =>
    unfold services_Find.l0 at H
    refine Ok.seq ?_
    refine Ok.region (σ' := ⟨[(1, (S a1)), (4, (.bref 4 0)), (8, (L 5 e_api_Service a0)), (9, (.v (.int .i64 (a0.length : Int)))), (10, (.v (.int .i64 x10_1))), (11, (.v (.bool (decide (x10_1 < (a0.length : Int))))))], [(4, (.box .ex [(S y4_0_2), (L 4 e_api_Entry y4_1_3), (.v (.bool y4_2_4)), (S y4_3_5), (L 1 eS y4_4_6)]))]⟩) ?_ ?_
    · refine .cv (VOk.arith (op := .lss) (k := .i64) (a := x10_1) (b := (a0.length : Int)) rfl rfl rfl rfl) rfl rfl ?_
      exact .done (.rf rfl rfl)
    refine Ok.seq ?_
    refine Ok.test (b := (decide (x10_1 < (a0.length : Int)))) rfl (fun hb16 => ?_) (fun hb16 => ?_)
    · replace H := ifT H hb16
      refine Ok.skip ?_
      refine Ok.seq ?_
      refine Ok.block ?_
      refine Ok.seq ?_
      obtain ⟨c14, H⟩ := assertE H
      refine Ok.region (σ' := ⟨[(1, (S a1)), (4, (.bref 4 0)), (7, (.bref 7 0)), (8, (L 5 e_api_Service a0)), (9, (.v (.int .i64 (a0.length : Int)))), (10, (.v (.int .i64 x10_1)))], [(4, (.box .ex [(S y4_0_2), (L 4 e_api_Entry y4_1_3), (.v (.bool y4_2_4)), (S y4_3_5), (L 1 eS y4_4_6)])), (7, (.box .ex (c_api_Service (rd a0 x10_1))))]⟩) ?_ ?_
      · refine .cv (VOk.indexL (sz := 5) (e := e_api_Service) (xs := a0) (i := x10_1) rfl Try.underlying30 sz39 rfl rfl c14) rfl rfl ?_
        refine .cv (VOk.to (d' := (.agg (e_api_Service (rd a0 x10_1)))) (.loadFpAgg rfl Try.underlying39 rfl sz39 rfl rfl) rfl) rfl rfl ?_
        refine OpsOk.cons rfl (OpOk.alloc 7 [none, some 4, none, none, some 1] rfl zo39 rfl rfl) ?_
        refine OpsOk.cons rfl (OpOk.to (σ2 := St.put ⟨_, (7, (.box .ex (c_api_Service (rd a0 x10_1)))) :: _⟩ _ .junk) (.storeB rfl sz39 rfl rfl rfl rfl rfl rfl) rfl) ?_
        exact .done (.rf rfl rfl)
      refine Ok.seq ?_
      refine Ok.region (σ' := ⟨[(1, (S a1)), (4, (.bref 4 0)), (7, (.bref 7 0)), (8, (L 5 e_api_Service a0)), (9, (.v (.int .i64 (a0.length : Int)))), (10, (.v (.int .i64 x10_1))), (17, (.v (.bool (((rd a0 x10_1).URI) == a1))))], [(4, (.box .ex [(S y4_0_2), (L 4 e_api_Entry y4_1_3), (.v (.bool y4_2_4)), (S y4_3_5), (L 1 eS y4_4_6)])), (7, (.box .ex (c_api_Service (rd a0 x10_1))))]⟩) ?_ ?_
      · refine .cv (VOk.to (VOk.fieldB rfl Try.underlying39 rfl sz9 rfl rfl) rfl) rfl rfl ?_
        refine .cv (VOk.loadB (d := (S ((rd a0 x10_1).URI))) rfl Try.underlying9 rfl rfl rfl rfl) rfl rfl ?_
        refine .cv (VOk.mv (d := (S a1)) rfl rfl) rfl rfl ?_
        refine .cv (VOk.strOp (op := .eql) (a := (rd a0 x10_1).URI) (b := a1) rfl rfl rfl rfl) rfl rfl ?_
        exact .done (.rf rfl rfl)
      refine Ok.test (b := (((rd a0 x10_1).URI) == a1)) rfl (fun hb15 => ?_) (fun hb15 => ?_)
      · replace H := ifT H hb15
        refine Ok.seq ?_
        refine Ok.region (σ' := ⟨[(4, (.bref 4 0)), (5, (.v (.bool true)))], [(4, (.box .ex (c_api_Service (rd a0 x10_1))))]⟩) ?_ ?_
        · refine .cv (VOk.to (d' := (.agg (e_api_Service (rd a0 x10_1)))) (.loadBAgg rfl Try.underlying39 rfl sz39 rfl rfl rfl) rfl) rfl rfl ?_
          refine OpsOk.cons rfl (OpOk.to (σ2 := St.put ⟨_, (4, (.box .ex (c_api_Service (rd a0 x10_1)))) :: _⟩ _ .junk) (.storeB rfl sz39 rfl rfl rfl rfl rfl rfl) rfl) ?_
          refine .cv (VOk.asg (d := (.v (.bool true))) rfl rfl) rfl rfl ?_
          exact .done (.rf rfl rfl)
        refine Ok.ret ?_
        obtain rfl := Option.some.inj H
        exact ⟨.inl rfl, ⟨_, (.cons (.cell (VOk.to (d' := (.agg (e_api_Service (rd a0 x10_1)))) (.loadBAgg rfl Try.underlying39 rfl sz39 rfl rfl rfl) rfl)) (.cons (.tmp rfl) .nil)), rfl⟩, trivial⟩
      · replace H := ifF H hb15
        refine Ok.skip ?_
        refine Ok.region (σ' := ⟨[(1, (S a1)), (4, (.bref 4 0)), (8, (L 5 e_api_Service a0)), (9, (.v (.int .i64 (a0.length : Int)))), (10, (.v (.int .i64 (IntKind.i64.wrap (x10_1 + 1)))))], [(4, (.box .ex [(S y4_0_2), (L 4 e_api_Entry y4_1_3), (.v (.bool y4_2_4)), (S y4_3_5), (L 1 eS y4_4_6)]))]⟩) ?_ ?_
        · refine .cv (VOk.arith (op := .add) (k := .i64) (a := x10_1) (b := 1) rfl rfl rfl rfl) rfl rfl ?_
          refine .cv (VOk.mv (d := (.v (.int .i64 (IntKind.i64.wrap (x10_1 + 1))))) rfl rfl) rfl rfl ?_
          exact .done (.rf rfl rfl)
        exact ⟨m13, Nat.lt_succ_self m13, y4_0_2, y4_1_3, y4_2_4, y4_3_5, y4_4_6, (IntKind.i64.wrap (x10_1 + 1)), rfl, H⟩
    · replace H := ifF H hb16
      refine Ok.exit ?_
      refine Ok.seq ?_
      refine Ok.region (σ' := ⟨[(4, (.bref 4 0)), (5, (.v (.bool false)))], [(4, (.box .ex (c_api_Service (T_api_Service.mk ([] : Str) ([] : List T_api_Entry) false ([] : Str) ([] : List Str)))))]⟩) ?_ ?_
      · refine .cv (VOk.to (d' := (.agg (e_api_Service (T_api_Service.mk ([] : Str) ([] : List T_api_Entry) false ([] : Str) ([] : List Str))))) (.build [none, some 4, none, none, some 1] [(0, 1), (1, 1), (2, 1), (3, 1), (4, 1)] rfl Try.underlying39 (fa39 Try.underlying39) zo39 rfl rfl) rfl) rfl rfl ?_
        refine OpsOk.cons rfl (OpOk.to (σ2 := St.put ⟨_, (4, (.box .ex (c_api_Service (T_api_Service.mk ([] : Str) ([] : List T_api_Entry) false ([] : Str) ([] : List Str))))) :: _⟩ _ .junk) (.storeB rfl sz39 rfl rfl rfl rfl rfl rfl) rfl) ?_
        refine .cv (VOk.asg (d := (.v (.bool false))) rfl rfl) rfl rfl ?_
        exact .done (.rf rfl rfl)
      refine Ok.ret ?_
      obtain rfl := Option.some.inj H
      exact ⟨.inl rfl, ⟨_, (.cons (.cell (VOk.to (d' := (.agg (e_api_Service (T_api_Service.mk ([] : Str) ([] : List T_api_Entry) false ([] : Str) ([] : List Str))))) (.loadBAgg rfl Try.underlying39 rfl sz39 rfl rfl rfl) rfl)) (.cons (.tmp rfl) .nil)), rfl⟩, trivial⟩

/-! watchbill/services.Check: function 15 -/
def services_Check (k : Nat) (a0 : T_api_Node) : Option Int := ((services_Decode k a0).bind fun (t1 : (List T_api_Service) × Int) => some t1.2)
theorem services_Check.ok {k : Nat} {a0 : T_api_Node} {r : Int} (H : services_Check k a0 = some r) : Vx.Fn Try.prog 15 [(.agg (e_api_Node a0))] [] (.v (.int .i64 r)) [] := by
  unfold services_Check at H
  refine Vx.Fn.of_okR Try.func15 rfl (Nat.le_of_ble_eq_true rfl) ?_
  refine Ok.seq ?_
  refine Ok.region (σ' := ⟨[(1, (.bref 1 0))], [(1, (.box .ex (c_api_Node a0)))]⟩) ?_ ?_
  · refine OpsOk.cut1 0 (.agg [(.v (.int .i64 a0.Kind)), (S a0.Name.Space), (S a0.Name.Local), (L 3 e_api_Attr a0.Attrs), (L 6 e_api_Node a0.Kids), (S a0.Text)]) (DLe.of_eq (congrArg D.agg (e_api_Node_c _).symm)) ?_
    refine OpsOk.cons rfl (OpOk.box 1 (cells := [(.v (.int .i64 a0.Kind)), (S a0.Name.Space), (S a0.Name.Local), (L 3 e_api_Attr a0.Attrs), (L 6 e_api_Node a0.Kids), (S a0.Text)]) rfl rfl rfl rfl) ?_
    refine .cv (VOk.asg (d := (.v (.int .i64 0))) rfl rfl) rfl rfl ?_
    exact .done (.rf rfl rfl)
  refine Ok.seq ?_
  obtain ⟨t1, h2, H⟩ := bindE H
  refine Ok.region (σ' := ⟨[(4, (.v (.int .i64 t1.2)))], []⟩) ?_ ?_
  · refine .cv (VOk.to (d' := (.agg (e_api_Node a0))) (.loadBAgg rfl Try.underlying27 rfl sz27 rfl rfl rfl) (congrArg D.agg (e_api_Node_c a0).symm)) rfl rfl ?_
    refine .cg (GOk.call rfl rfl cl10 rfl (services_Decode.ok h2) rfl) rfl rfl ?_
    refine .cv (VOk.mv (d := (.tup [(L 5 e_api_Service t1.1), (.v (.int .i64 t1.2))])) rfl rfl) rfl rfl ?_
    refine .cv (VOk.extract (d := (L 5 e_api_Service t1.1)) rfl rfl rfl) rfl rfl ?_
    refine .cv (VOk.extract (d := (.v (.int .i64 t1.2))) rfl rfl rfl) rfl rfl ?_
    refine .cv (VOk.asg (d := (L 5 e_api_Service t1.1)) rfl rfl) rfl rfl ?_
    refine .cv (VOk.asg (d := (.v (.int .i64 t1.2))) rfl rfl) rfl rfl ?_
    exact .done (.rf rfl rfl)
  refine Ok.seq ?_
  refine Ok.region (σ' := ⟨[(2, (.v (.int .i64 t1.2)))], []⟩) ?_ ?_
  · refine .cv (VOk.mv (d := (.v (.int .i64 t1.2))) rfl rfl) rfl rfl ?_
    refine .cv (VOk.asg (d := (.v (.int .i64 t1.2))) rfl rfl) rfl rfl ?_
    exact .done (.rf rfl rfl)
  refine Ok.ret ?_
  obtain rfl := Option.some.inj H
  exact ⟨.inl rfl, ⟨_, (.cons (.tmp rfl) .nil), rfl⟩, trivial⟩

/-! watchbill/watchbilllaw17.awake: function 8 -/
def watchbilllaw17_awake (k : Nat) : Option Bool := ((services_Encode k ([(T_api_Service.mk ([115] : Str) ([(T_api_Entry.mk 1 ([97] : Str) ([] : Str) ([] : List T_api_Entry))] : List T_api_Entry) true ([] : Str) ([] : List Str)), (T_api_Service.mk ([116] : Str) ([] : List T_api_Entry) false ([114] : Str) ([([112, 114, 101, 115, 101, 110, 99, 101] : Str)] : List Str))] : List T_api_Service)).bind fun (t1 : T_api_Node × Int) => ((services_Decode k t1.1).bind fun (t3 : (List T_api_Service) × Int) => ((services_Find k t3.1 ([116] : Str)).bind fun (t5 : T_api_Service × Bool) => (if (0 : Int) ≤ 1 ∧ 1 < (([(T_api_Service.mk ([115] : Str) ([(T_api_Entry.mk 1 ([97] : Str) ([] : Str) ([] : List T_api_Entry))] : List T_api_Entry) true ([] : Str) ([] : List Str)), (T_api_Service.mk ([116] : Str) ([] : List T_api_Entry) false ([114] : Str) ([([112, 114, 101, 115, 101, 110, 99, 101] : Str)] : List Str))] : List T_api_Service).length : Int) then (if (0 : Int) ≤ 1 ∧ 1 < (([(T_api_Service.mk ([115] : Str) ([(T_api_Entry.mk 1 ([97] : Str) ([] : Str) ([] : List T_api_Entry))] : List T_api_Entry) true ([] : Str) ([] : List Str)), (T_api_Service.mk ([116] : Str) ([] : List T_api_Entry) false ([114] : Str) ([([112, 114, 101, 115, 101, 110, 99, 101] : Str)] : List Str))] : List T_api_Service).length : Int) then ((services_Encode k ([(rd ([(T_api_Service.mk ([115] : Str) ([(T_api_Entry.mk 1 ([97] : Str) ([] : Str) ([] : List T_api_Entry))] : List T_api_Entry) true ([] : Str) ([] : List Str)), (T_api_Service.mk ([116] : Str) ([] : List T_api_Entry) false ([114] : Str) ([([112, 114, 101, 115, 101, 110, 99, 101] : Str)] : List Str))] : List T_api_Service) 1), (rd ([(T_api_Service.mk ([115] : Str) ([(T_api_Entry.mk 1 ([97] : Str) ([] : Str) ([] : List T_api_Entry))] : List T_api_Entry) true ([] : Str) ([] : List Str)), (T_api_Service.mk ([116] : Str) ([] : List T_api_Entry) false ([114] : Str) ([([112, 114, 101, 115, 101, 110, 99, 101] : Str)] : List Str))] : List T_api_Service) 1)] : List T_api_Service)).bind fun (t9 : T_api_Node × Int) => (if (((((t1.2 == 0) && (t3.2 == 0)) && ((t3.1.length : Int) == 2)) == true) = true → (0 : Int) ≤ 0 ∧ 0 < (t3.1.length : Int)) then (if ((((((t1.2 == 0) && (t3.2 == 0)) && ((t3.1.length : Int) == 2)) && ((rd t3.1 0).Inline)) == true) = true → (0 : Int) ≤ 0 ∧ 0 < (t3.1.length : Int)) then (((if ((((((((((t1.2 == 0) && (t3.2 == 0)) && ((t3.1.length : Int) == 2)) && ((rd t3.1 0).Inline)) && ((((rd t3.1 0).List_).length : Int) == 1)) && (t5.1.Ref == ([114] : Str))) && ((t5.1.Packages.length : Int) == 1)) && t5.2) && (t9.2 == 41)) == true) = true then services_Check k (T_api_Node.mk 0 (T_api_Name.mk ([] : Str) ([] : Str)) ([] : List T_api_Attr) ([] : List T_api_Node) ([] : Str)) else some default)).bind fun (t30 : Int) => some ((((((((((t1.2 == 0) && (t3.2 == 0)) && ((t3.1.length : Int) == 2)) && ((rd t3.1 0).Inline)) && ((((rd t3.1 0).List_).length : Int) == 1)) && (t5.1.Ref == ([114] : Str))) && ((t5.1.Packages.length : Int) == 1)) && t5.2) && (t9.2 == 41)) && (t30 == 40))) else none) else none)) else none) else none))))
theorem watchbilllaw17_awake.ok {k : Nat} {r : Bool} (H : watchbilllaw17_awake k = some r) : Vx.Fn Try.prog 8 [] [] (.v (.bool r)) [] := by
  unfold watchbilllaw17_awake at H
  refine Vx.Fn.of_okR Try.func8 rfl (Nat.le_of_ble_eq_true rfl) ?_
  refine Ok.seq ?_
  refine Ok.region (σ' := ⟨[], []⟩) ?_ ?_
  · refine .cv (VOk.asg (d := (.v (.bool false))) rfl rfl) rfl rfl ?_
    exact .done (.rf rfl rfl)
  refine Ok.seq ?_
  refine Ok.region (σ' := ⟨[(1, (L 5 e_api_Service ([(T_api_Service.mk ([115] : Str) ([(T_api_Entry.mk 1 ([97] : Str) ([] : Str) ([] : List T_api_Entry))] : List T_api_Entry) true ([] : Str) ([] : List Str)), (T_api_Service.mk ([116] : Str) ([] : List T_api_Entry) false ([114] : Str) ([([112, 114, 101, 115, 101, 110, 99, 101] : Str)] : List Str))] : List T_api_Service)))], []⟩) ?_ ?_
  · refine .cv (VOk.to (d' := (.agg (e_api_Entry (T_api_Entry.mk 1 ([97] : Str) ([] : Str) ([] : List T_api_Entry))))) (.build [none, none, none, some 4] [(0, 1), (1, 1), (2, 1), (3, 1)] rfl Try.underlying56 (fa56 Try.underlying56) zo56 rfl rfl) (congrArg D.agg (e_api_Entry_c (T_api_Entry.mk 1 ([97] : Str) ([] : Str) ([] : List T_api_Entry))).symm)) rfl rfl ?_
    refine .cg (GOk.to (d' := (L 4 e_api_Entry ([(T_api_Entry.mk 1 ([97] : Str) ([] : Str) ([] : List T_api_Entry))] : List T_api_Entry))) (GOk.lit rfl Try.underlying36 sz56 zs56 rfl rfl rfl rfl) rfl) rfl rfl ?_
    refine .cv (VOk.to (d' := (.agg (e_api_Service (T_api_Service.mk ([115] : Str) ([(T_api_Entry.mk 1 ([97] : Str) ([] : Str) ([] : List T_api_Entry))] : List T_api_Entry) true ([] : Str) ([] : List Str))))) (.build [none, some 4, none, none, some 1] [(0, 1), (1, 1), (2, 1), (3, 1), (4, 1)] rfl Try.underlying39 (fa39 Try.underlying39) zo39 rfl rfl) rfl) rfl rfl ?_
    refine .cg (GOk.to (d' := (L 1 eS ([([112, 114, 101, 115, 101, 110, 99, 101] : Str)] : List Str))) (GOk.lit rfl Try.underlying37 sz9 zs9 rfl rfl rfl rfl) rfl) rfl rfl ?_
    refine .cv (VOk.to (d' := (.agg (e_api_Service (T_api_Service.mk ([116] : Str) ([] : List T_api_Entry) false ([114] : Str) ([([112, 114, 101, 115, 101, 110, 99, 101] : Str)] : List Str))))) (.build [none, some 4, none, none, some 1] [(0, 1), (1, 1), (2, 1), (3, 1), (4, 1)] rfl Try.underlying39 (fa39 Try.underlying39) zo39 rfl rfl) rfl) rfl rfl ?_
    refine .cg (GOk.to (d' := (L 5 e_api_Service ([(T_api_Service.mk ([115] : Str) ([(T_api_Entry.mk 1 ([97] : Str) ([] : Str) ([] : List T_api_Entry))] : List T_api_Entry) true ([] : Str) ([] : List Str)), (T_api_Service.mk ([116] : Str) ([] : List T_api_Entry) false ([114] : Str) ([([112, 114, 101, 115, 101, 110, 99, 101] : Str)] : List Str))] : List T_api_Service))) (GOk.lit rfl Try.underlying30 sz39 zs39 rfl rfl rfl rfl) rfl) rfl rfl ?_
    refine .cv (VOk.asg (d := (L 5 e_api_Service ([(T_api_Service.mk ([115] : Str) ([(T_api_Entry.mk 1 ([97] : Str) ([] : Str) ([] : List T_api_Entry))] : List T_api_Entry) true ([] : Str) ([] : List Str)), (T_api_Service.mk ([116] : Str) ([] : List T_api_Entry) false ([114] : Str) ([([112, 114, 101, 115, 101, 110, 99, 101] : Str)] : List Str))] : List T_api_Service))) rfl rfl) rfl rfl ?_
    exact .done (.rf rfl rfl)
  refine Ok.seq ?_
  obtain ⟨t1, h2, H⟩ := bindE H
  refine Ok.region (σ' := ⟨[(1, (L 5 e_api_Service ([(T_api_Service.mk ([115] : Str) ([(T_api_Entry.mk 1 ([97] : Str) ([] : Str) ([] : List T_api_Entry))] : List T_api_Entry) true ([] : Str) ([] : List Str)), (T_api_Service.mk ([116] : Str) ([] : List T_api_Entry) false ([114] : Str) ([([112, 114, 101, 115, 101, 110, 99, 101] : Str)] : List Str))] : List T_api_Service))), (2, (.bref 2 0)), (3, (.v (.int .i64 t1.2)))], [(2, (.box .ex (c_api_Node t1.1)))]⟩) ?_ ?_
  · refine .cv (VOk.mv (d := (L 5 e_api_Service ([(T_api_Service.mk ([115] : Str) ([(T_api_Entry.mk 1 ([97] : Str) ([] : Str) ([] : List T_api_Entry))] : List T_api_Entry) true ([] : Str) ([] : List Str)), (T_api_Service.mk ([116] : Str) ([] : List T_api_Entry) false ([114] : Str) ([([112, 114, 101, 115, 101, 110, 99, 101] : Str)] : List Str))] : List T_api_Service))) rfl rfl) rfl rfl ?_
    refine .cg (GOk.call rfl rfl cl18 rfl (services_Encode.ok h2) rfl) rfl rfl ?_
    refine .cv (VOk.mv (d := (.tup [(.agg (e_api_Node t1.1)), (.v (.int .i64 t1.2))])) rfl rfl) rfl rfl ?_
    refine .cv (VOk.extract (d := (.agg (e_api_Node t1.1))) rfl rfl rfl) rfl rfl ?_
    refine .cv (VOk.extract (d := (.v (.int .i64 t1.2))) rfl rfl rfl) rfl rfl ?_
    refine OpsOk.cons rfl (OpOk.alloc 2 [none, none, none, some 3, some 6, none] rfl zo27 rfl rfl) ?_
    refine OpsOk.cut1 19 (.agg [(.v (.int .i64 t1.1.Kind)), (S t1.1.Name.Space), (S t1.1.Name.Local), (L 3 e_api_Attr t1.1.Attrs), (L 6 e_api_Node t1.1.Kids), (S t1.1.Text)]) (DLe.of_eq (congrArg D.agg (e_api_Node_c _).symm)) ?_
    refine OpsOk.cons rfl (OpOk.to (σ2 := St.put ⟨_, (2, (.box .ex (c_api_Node t1.1))) :: _⟩ _ .junk) (.storeB rfl sz27 rfl rfl rfl rfl rfl rfl) rfl) ?_
    refine .cv (VOk.asg (d := (.v (.int .i64 t1.2))) rfl rfl) rfl rfl ?_
    exact .done (.rf rfl rfl)
  refine Ok.seq ?_
  obtain ⟨t3, h4, H⟩ := bindE H
  refine Ok.region (σ' := ⟨[(1, (L 5 e_api_Service ([(T_api_Service.mk ([115] : Str) ([(T_api_Entry.mk 1 ([97] : Str) ([] : Str) ([] : List T_api_Entry))] : List T_api_Entry) true ([] : Str) ([] : List Str)), (T_api_Service.mk ([116] : Str) ([] : List T_api_Entry) false ([114] : Str) ([([112, 114, 101, 115, 101, 110, 99, 101] : Str)] : List Str))] : List T_api_Service))), (3, (.v (.int .i64 t1.2))), (4, (L 5 e_api_Service t3.1)), (5, (.v (.int .i64 t3.2)))], []⟩) ?_ ?_
  · refine .cv (VOk.to (d' := (.agg (e_api_Node t1.1))) (.loadBAgg rfl Try.underlying27 rfl sz27 rfl rfl rfl) (congrArg D.agg (e_api_Node_c t1.1).symm)) rfl rfl ?_
    refine .cg (GOk.call rfl rfl cl10 rfl (services_Decode.ok h4) rfl) rfl rfl ?_
    refine .cv (VOk.mv (d := (.tup [(L 5 e_api_Service t3.1), (.v (.int .i64 t3.2))])) rfl rfl) rfl rfl ?_
    refine .cv (VOk.extract (d := (L 5 e_api_Service t3.1)) rfl rfl rfl) rfl rfl ?_
    refine .cv (VOk.extract (d := (.v (.int .i64 t3.2))) rfl rfl rfl) rfl rfl ?_
    refine .cv (VOk.asg (d := (L 5 e_api_Service t3.1)) rfl rfl) rfl rfl ?_
    refine .cv (VOk.asg (d := (.v (.int .i64 t3.2))) rfl rfl) rfl rfl ?_
    exact .done (.rf rfl rfl)
  refine Ok.seq ?_
  obtain ⟨t5, h6, H⟩ := bindE H
  refine Ok.region (σ' := ⟨[(1, (L 5 e_api_Service ([(T_api_Service.mk ([115] : Str) ([(T_api_Entry.mk 1 ([97] : Str) ([] : Str) ([] : List T_api_Entry))] : List T_api_Entry) true ([] : Str) ([] : List Str)), (T_api_Service.mk ([116] : Str) ([] : List T_api_Entry) false ([114] : Str) ([([112, 114, 101, 115, 101, 110, 99, 101] : Str)] : List Str))] : List T_api_Service))), (3, (.v (.int .i64 t1.2))), (4, (L 5 e_api_Service t3.1)), (5, (.v (.int .i64 t3.2))), (6, (.bref 6 0)), (7, (.v (.bool t5.2)))], [(6, (.box .ex (c_api_Service t5.1)))]⟩) ?_ ?_
  · refine .cv (VOk.mv (d := (L 5 e_api_Service t3.1)) rfl rfl) rfl rfl ?_
    refine .cg (GOk.call rfl rfl cl12 rfl (services_Find.ok h6) rfl) rfl rfl ?_
    refine .cv (VOk.mv (d := (.tup [(.agg (e_api_Service t5.1)), (.v (.bool t5.2))])) rfl rfl) rfl rfl ?_
    refine .cv (VOk.extract (d := (.agg (e_api_Service t5.1))) rfl rfl rfl) rfl rfl ?_
    refine .cv (VOk.extract (d := (.v (.bool t5.2))) rfl rfl rfl) rfl rfl ?_
    refine OpsOk.cons rfl (OpOk.alloc 6 [none, some 4, none, none, some 1] rfl zo39 rfl rfl) ?_
    refine OpsOk.cons rfl (OpOk.to (σ2 := St.put ⟨_, (6, (.box .ex (c_api_Service t5.1))) :: _⟩ _ .junk) (.storeB rfl sz39 rfl rfl rfl rfl rfl rfl) rfl) ?_
    refine .cv (VOk.asg (d := (.v (.bool t5.2))) rfl rfl) rfl rfl ?_
    exact .done (.rf rfl rfl)
  refine Ok.seq ?_
  obtain ⟨c7, H⟩ := assertE H
  obtain ⟨c8, H⟩ := assertE H
  obtain ⟨t9, h10, H⟩ := bindE H
  refine Ok.le (σ' := ⟨[(1, (L 5 e_api_Service ([(T_api_Service.mk ([115] : Str) ([(T_api_Entry.mk 1 ([97] : Str) ([] : Str) ([] : List T_api_Entry))] : List T_api_Entry) true ([] : Str) ([] : List Str)), (T_api_Service.mk ([116] : Str) ([] : List T_api_Entry) false ([114] : Str) ([([112, 114, 101, 115, 101, 110, 99, 101] : Str)] : List Str))] : List T_api_Service))), (3, (.v (.int .i64 t1.2))), (4, (L 5 e_api_Service t3.1)), (5, (.v (.int .i64 t3.2))), (6, (.bref 6 0)), (7, (.v (.bool t5.2)))], [(6, (.box .ex (c_api_Service t5.1)))]⟩) (.rf rfl rfl) ?_
  refine Ok.drawE2 (σ' := ⟨[(3, (.v (.int .i64 t1.2))), (4, (L 5 e_api_Service t3.1)), (5, (.v (.int .i64 t3.2))), (6, (.bref 6 0)), (7, (.v (.bool t5.2))), (9, (.v (.int .i64 t9.2)))], [(6, (.box .ex (c_api_Service t5.1)))]⟩) [⟨true, [(1, (L 5 e_api_Service ([(T_api_Service.mk ([115] : Str) ([(T_api_Entry.mk 1 ([97] : Str) ([] : Str) ([] : List T_api_Entry))] : List T_api_Entry) true ([] : Str) ([] : List Str)), (T_api_Service.mk ([116] : Str) ([] : List T_api_Entry) false ([114] : Str) ([([112, 114, 101, 115, 101, 110, 99, 101] : Str)] : List Str))] : List T_api_Service)))], [], (L 5 e_api_Service ([(T_api_Service.mk ([115] : Str) ([(T_api_Entry.mk 1 ([97] : Str) ([] : Str) ([] : List T_api_Entry))] : List T_api_Entry) true ([] : Str) ([] : List Str)), (T_api_Service.mk ([116] : Str) ([] : List T_api_Entry) false ([114] : Str) ([([112, 114, 101, 115, 101, 110, 99, 101] : Str)] : List Str))] : List T_api_Service)), [], false, []⟩, ⟨true, [(32, (L 5 e_api_Service ([(T_api_Service.mk ([115] : Str) ([(T_api_Entry.mk 1 ([97] : Str) ([] : Str) ([] : List T_api_Entry))] : List T_api_Entry) true ([] : Str) ([] : List Str)), (T_api_Service.mk ([116] : Str) ([] : List T_api_Entry) false ([114] : Str) ([([112, 114, 101, 115, 101, 110, 99, 101] : Str)] : List Str))] : List T_api_Service)))], [], (.fp (e_api_Service (rd ([(T_api_Service.mk ([115] : Str) ([(T_api_Entry.mk 1 ([97] : Str) ([] : Str) ([] : List T_api_Entry))] : List T_api_Entry) true ([] : Str) ([] : List Str)), (T_api_Service.mk ([116] : Str) ([] : List T_api_Entry) false ([114] : Str) ([([112, 114, 101, 115, 101, 110, 99, 101] : Str)] : List Str))] : List T_api_Service) 1)) 0), [], false, []⟩, ⟨true, [(33, (.fp (e_api_Service (rd ([(T_api_Service.mk ([115] : Str) ([(T_api_Entry.mk 1 ([97] : Str) ([] : Str) ([] : List T_api_Entry))] : List T_api_Entry) true ([] : Str) ([] : List Str)), (T_api_Service.mk ([116] : Str) ([] : List T_api_Entry) false ([114] : Str) ([([112, 114, 101, 115, 101, 110, 99, 101] : Str)] : List Str))] : List T_api_Service) 1)) 0))], [], (.agg (e_api_Service (rd ([(T_api_Service.mk ([115] : Str) ([(T_api_Entry.mk 1 ([97] : Str) ([] : Str) ([] : List T_api_Entry))] : List T_api_Entry) true ([] : Str) ([] : List Str)), (T_api_Service.mk ([116] : Str) ([] : List T_api_Entry) false ([114] : Str) ([([112, 114, 101, 115, 101, 110, 99, 101] : Str)] : List Str))] : List T_api_Service) 1))), [], false, []⟩, ⟨true, [(1, (L 5 e_api_Service ([(T_api_Service.mk ([115] : Str) ([(T_api_Entry.mk 1 ([97] : Str) ([] : Str) ([] : List T_api_Entry))] : List T_api_Entry) true ([] : Str) ([] : List Str)), (T_api_Service.mk ([116] : Str) ([] : List T_api_Entry) false ([114] : Str) ([([112, 114, 101, 115, 101, 110, 99, 101] : Str)] : List Str))] : List T_api_Service)))], [], (L 5 e_api_Service ([(T_api_Service.mk ([115] : Str) ([(T_api_Entry.mk 1 ([97] : Str) ([] : Str) ([] : List T_api_Entry))] : List T_api_Entry) true ([] : Str) ([] : List Str)), (T_api_Service.mk ([116] : Str) ([] : List T_api_Entry) false ([114] : Str) ([([112, 114, 101, 115, 101, 110, 99, 101] : Str)] : List Str))] : List T_api_Service)), [], false, []⟩, ⟨true, [(35, (L 5 e_api_Service ([(T_api_Service.mk ([115] : Str) ([(T_api_Entry.mk 1 ([97] : Str) ([] : Str) ([] : List T_api_Entry))] : List T_api_Entry) true ([] : Str) ([] : List Str)), (T_api_Service.mk ([116] : Str) ([] : List T_api_Entry) false ([114] : Str) ([([112, 114, 101, 115, 101, 110, 99, 101] : Str)] : List Str))] : List T_api_Service)))], [], (.fp (e_api_Service (rd ([(T_api_Service.mk ([115] : Str) ([(T_api_Entry.mk 1 ([97] : Str) ([] : Str) ([] : List T_api_Entry))] : List T_api_Entry) true ([] : Str) ([] : List Str)), (T_api_Service.mk ([116] : Str) ([] : List T_api_Entry) false ([114] : Str) ([([112, 114, 101, 115, 101, 110, 99, 101] : Str)] : List Str))] : List T_api_Service) 1)) 0), [], false, []⟩, ⟨true, [(36, (.fp (e_api_Service (rd ([(T_api_Service.mk ([115] : Str) ([(T_api_Entry.mk 1 ([97] : Str) ([] : Str) ([] : List T_api_Entry))] : List T_api_Entry) true ([] : Str) ([] : List Str)), (T_api_Service.mk ([116] : Str) ([] : List T_api_Entry) false ([114] : Str) ([([112, 114, 101, 115, 101, 110, 99, 101] : Str)] : List Str))] : List T_api_Service) 1)) 0))], [], (.agg (e_api_Service (rd ([(T_api_Service.mk ([115] : Str) ([(T_api_Entry.mk 1 ([97] : Str) ([] : Str) ([] : List T_api_Entry))] : List T_api_Entry) true ([] : Str) ([] : List Str)), (T_api_Service.mk ([116] : Str) ([] : List T_api_Entry) false ([114] : Str) ([([112, 114, 101, 115, 101, 110, 99, 101] : Str)] : List Str))] : List T_api_Service) 1))), [], false, []⟩, ⟨true, [(34, (.agg (e_api_Service (rd ([(T_api_Service.mk ([115] : Str) ([(T_api_Entry.mk 1 ([97] : Str) ([] : Str) ([] : List T_api_Entry))] : List T_api_Entry) true ([] : Str) ([] : List Str)), (T_api_Service.mk ([116] : Str) ([] : List T_api_Entry) false ([114] : Str) ([([112, 114, 101, 115, 101, 110, 99, 101] : Str)] : List Str))] : List T_api_Service) 1)))), (37, (.agg (e_api_Service (rd ([(T_api_Service.mk ([115] : Str) ([(T_api_Entry.mk 1 ([97] : Str) ([] : Str) ([] : List T_api_Entry))] : List T_api_Entry) true ([] : Str) ([] : List Str)), (T_api_Service.mk ([116] : Str) ([] : List T_api_Entry) false ([114] : Str) ([([112, 114, 101, 115, 101, 110, 99, 101] : Str)] : List Str))] : List T_api_Service) 1))))], [], (L 5 e_api_Service ([(rd ([(T_api_Service.mk ([115] : Str) ([(T_api_Entry.mk 1 ([97] : Str) ([] : Str) ([] : List T_api_Entry))] : List T_api_Entry) true ([] : Str) ([] : List Str)), (T_api_Service.mk ([116] : Str) ([] : List T_api_Entry) false ([114] : Str) ([([112, 114, 101, 115, 101, 110, 99, 101] : Str)] : List Str))] : List T_api_Service) 1), (rd ([(T_api_Service.mk ([115] : Str) ([(T_api_Entry.mk 1 ([97] : Str) ([] : Str) ([] : List T_api_Entry))] : List T_api_Entry) true ([] : Str) ([] : List Str)), (T_api_Service.mk ([116] : Str) ([] : List T_api_Entry) false ([114] : Str) ([([112, 114, 101, 115, 101, 110, 99, 101] : Str)] : List Str))] : List T_api_Service) 1)] : List T_api_Service)), [], false, []⟩, ⟨true, [(38, (L 5 e_api_Service ([(rd ([(T_api_Service.mk ([115] : Str) ([(T_api_Entry.mk 1 ([97] : Str) ([] : Str) ([] : List T_api_Entry))] : List T_api_Entry) true ([] : Str) ([] : List Str)), (T_api_Service.mk ([116] : Str) ([] : List T_api_Entry) false ([114] : Str) ([([112, 114, 101, 115, 101, 110, 99, 101] : Str)] : List Str))] : List T_api_Service) 1), (rd ([(T_api_Service.mk ([115] : Str) ([(T_api_Entry.mk 1 ([97] : Str) ([] : Str) ([] : List T_api_Entry))] : List T_api_Entry) true ([] : Str) ([] : List Str)), (T_api_Service.mk ([116] : Str) ([] : List T_api_Entry) false ([114] : Str) ([([112, 114, 101, 115, 101, 110, 99, 101] : Str)] : List Str))] : List T_api_Service) 1)] : List T_api_Service)))], [], (.tup [(.agg (e_api_Node t9.1)), (.v (.int .i64 t9.2))]), [], false, []⟩, ⟨true, [(39, (.tup [(.agg (e_api_Node t9.1)), (.v (.int .i64 t9.2))]))], [], (.tup [(.agg (e_api_Node t9.1)), (.v (.int .i64 t9.2))]), [], false, []⟩, ⟨true, [(31, (.tup [(.agg (e_api_Node t9.1)), (.v (.int .i64 t9.2))]))], [], (.agg (e_api_Node t9.1)), [], false, []⟩, ⟨true, [(31, (.tup [(.agg (e_api_Node t9.1)), (.v (.int .i64 t9.2))]))], [], (.v (.int .i64 t9.2)), [], false, []⟩, ⟨true, [], [], (.bref 8 0), [(8, (.box .ex [(.v (.int .i64 0)), (S ([] : Str)), (S ([] : Str)), (L 3 e_api_Attr ([] : List T_api_Attr)), (L 6 e_api_Node ([] : List T_api_Node)), (S ([] : Str))]))], true, []⟩, ⟨true, [(8, (.bref 8 0)), (40, (.agg [(.v (.int .i64 t9.1.Kind)), (S t9.1.Name.Space), (S t9.1.Name.Local), (L 3 e_api_Attr t9.1.Attrs), (L 6 e_api_Node t9.1.Kids), (S t9.1.Text)]))], [(8, (.box .ex [(.v (.int .i64 0)), (S ([] : Str)), (S ([] : Str)), (L 3 e_api_Attr ([] : List T_api_Attr)), (L 6 e_api_Node ([] : List T_api_Node)), (S ([] : Str))]))], .junk, [(8, (.box .ex (c_api_Node t9.1)))], false, []⟩, ⟨true, [(41, (.v (.int .i64 t9.2)))], [], (.v (.int .i64 t9.2)), [], false, []⟩] [[], [0], [1], [], [3], [4], [2, 5], [6], [7], [8], [8], [], [9, 11], [10]] mixed (by kernel_rfl) ?_ ?_
  · refine TxtE2.cons ⟨.same _, trivial⟩ trivial (It2.val rfl rfl (fun T hT => (VOk.g (VOk.mv (d := (L 5 e_api_Service ([(T_api_Service.mk ([115] : Str) ([(T_api_Entry.mk 1 ([97] : Str) ([] : Str) ([] : List T_api_Entry))] : List T_api_Entry) true ([] : Str) ([] : List Str)), (T_api_Service.mk ([116] : Str) ([] : List T_api_Entry) false ([114] : Str) ([([112, 114, 101, 115, 101, 110, 99, 101] : Str)] : List Str))] : List T_api_Service))) rfl rfl)))) ?_
    refine TxtE2.cons ⟨.same _, trivial⟩ trivial (It2.val rfl rfl (fun T hT => (VOk.g (VOk.indexL (sz := 5) (e := e_api_Service) (xs := ([(T_api_Service.mk ([115] : Str) ([(T_api_Entry.mk 1 ([97] : Str) ([] : Str) ([] : List T_api_Entry))] : List T_api_Entry) true ([] : Str) ([] : List Str)), (T_api_Service.mk ([116] : Str) ([] : List T_api_Entry) false ([114] : Str) ([([112, 114, 101, 115, 101, 110, 99, 101] : Str)] : List Str))] : List T_api_Service)) (i := 1) rfl Try.underlying30 sz39 rfl rfl c7)))) ?_
    refine TxtE2.cons ⟨.same _, trivial⟩ trivial (It2.val rfl rfl (fun T hT => (VOk.g (VOk.to (d' := (.agg (e_api_Service (rd ([(T_api_Service.mk ([115] : Str) ([(T_api_Entry.mk 1 ([97] : Str) ([] : Str) ([] : List T_api_Entry))] : List T_api_Entry) true ([] : Str) ([] : List Str)), (T_api_Service.mk ([116] : Str) ([] : List T_api_Entry) false ([114] : Str) ([([112, 114, 101, 115, 101, 110, 99, 101] : Str)] : List Str))] : List T_api_Service) 1)))) (.loadFpAgg rfl Try.underlying39 rfl sz39 rfl rfl) rfl)))) ?_
    refine TxtE2.cons ⟨.same _, trivial⟩ trivial (It2.val rfl rfl (fun T hT => (VOk.g (VOk.mv (d := (L 5 e_api_Service ([(T_api_Service.mk ([115] : Str) ([(T_api_Entry.mk 1 ([97] : Str) ([] : Str) ([] : List T_api_Entry))] : List T_api_Entry) true ([] : Str) ([] : List Str)), (T_api_Service.mk ([116] : Str) ([] : List T_api_Entry) false ([114] : Str) ([([112, 114, 101, 115, 101, 110, 99, 101] : Str)] : List Str))] : List T_api_Service))) rfl rfl)))) ?_
    refine TxtE2.cons ⟨.same _, trivial⟩ trivial (It2.val rfl rfl (fun T hT => (VOk.g (VOk.indexL (sz := 5) (e := e_api_Service) (xs := ([(T_api_Service.mk ([115] : Str) ([(T_api_Entry.mk 1 ([97] : Str) ([] : Str) ([] : List T_api_Entry))] : List T_api_Entry) true ([] : Str) ([] : List Str)), (T_api_Service.mk ([116] : Str) ([] : List T_api_Entry) false ([114] : Str) ([([112, 114, 101, 115, 101, 110, 99, 101] : Str)] : List Str))] : List T_api_Service)) (i := 1) rfl Try.underlying30 sz39 rfl rfl c8)))) ?_
    refine TxtE2.cons ⟨.same _, trivial⟩ trivial (It2.val rfl rfl (fun T hT => (VOk.g (VOk.to (d' := (.agg (e_api_Service (rd ([(T_api_Service.mk ([115] : Str) ([(T_api_Entry.mk 1 ([97] : Str) ([] : Str) ([] : List T_api_Entry))] : List T_api_Entry) true ([] : Str) ([] : List Str)), (T_api_Service.mk ([116] : Str) ([] : List T_api_Entry) false ([114] : Str) ([([112, 114, 101, 115, 101, 110, 99, 101] : Str)] : List Str))] : List T_api_Service) 1)))) (.loadFpAgg rfl Try.underlying39 rfl sz39 rfl rfl) rfl)))) ?_
    refine TxtE2.cons ⟨.same _, .same _, trivial⟩ trivial (It2.val rfl rfl (fun T hT => (GOk.to (d' := (L 5 e_api_Service ([(rd ([(T_api_Service.mk ([115] : Str) ([(T_api_Entry.mk 1 ([97] : Str) ([] : Str) ([] : List T_api_Entry))] : List T_api_Entry) true ([] : Str) ([] : List Str)), (T_api_Service.mk ([116] : Str) ([] : List T_api_Entry) false ([114] : Str) ([([112, 114, 101, 115, 101, 110, 99, 101] : Str)] : List Str))] : List T_api_Service) 1), (rd ([(T_api_Service.mk ([115] : Str) ([(T_api_Entry.mk 1 ([97] : Str) ([] : Str) ([] : List T_api_Entry))] : List T_api_Entry) true ([] : Str) ([] : List Str)), (T_api_Service.mk ([116] : Str) ([] : List T_api_Entry) false ([114] : Str) ([([112, 114, 101, 115, 101, 110, 99, 101] : Str)] : List Str))] : List T_api_Service) 1)] : List T_api_Service))) (GOk.lit rfl Try.underlying30 sz39 zs39 rfl rfl rfl rfl) rfl))) ?_
    refine TxtE2.cons ⟨.same _, trivial⟩ trivial (It2.val rfl rfl (fun T hT => (GOk.call rfl rfl cl18 rfl (services_Encode.ok h10) rfl))) ?_
    refine TxtE2.cons ⟨.same _, trivial⟩ trivial (It2.val rfl rfl (fun T hT => (VOk.g (VOk.mv (d := (.tup [(.agg (e_api_Node t9.1)), (.v (.int .i64 t9.2))])) rfl rfl)))) ?_
    refine TxtE2.cons ⟨.same _, trivial⟩ trivial (It2.val rfl rfl (fun T hT => (VOk.g (VOk.extract (d := (.agg (e_api_Node t9.1))) rfl rfl rfl)))) ?_
    refine TxtE2.cons ⟨.same _, trivial⟩ trivial (It2.val rfl rfl (fun T hT => (VOk.g (VOk.extract (d := (.v (.int .i64 t9.2))) rfl rfl rfl)))) ?_
    refine TxtE2.cons trivial trivial (It2.alloc 8 [none, none, none, some 3, some 6, none] rfl rfl zo27 rfl rfl) ?_
    refine TxtE2.cons ⟨.same _, DLe.of_eq (congrArg D.agg (e_api_Node_c _).symm), trivial⟩ ⟨rfl, trivial⟩ (It2.store rfl rfl sz27 rfl rfl rfl rfl rfl rfl rfl rfl) ?_
    refine TxtE2.cons ⟨.same _, trivial⟩ trivial (It2.val rfl rfl (fun T hT => (VOk.g (VOk.asg (d := (.v (.int .i64 t9.2))) rfl rfl)))) ?_
    exact .done (.rf rfl rfl)
  refine Ok.seq ?_
  obtain ⟨c16, H⟩ := assertE H
  obtain ⟨c19, H⟩ := assertE H
  obtain ⟨t30, h31, H⟩ := bindE H
  refine Ok.region (σ' := ⟨[(0, (.v (.bool ((((((((((t1.2 == 0) && (t3.2 == 0)) && ((t3.1.length : Int) == 2)) && ((rd t3.1 0).Inline)) && ((((rd t3.1 0).List_).length : Int) == 1)) && (t5.1.Ref == ([114] : Str))) && ((t5.1.Packages.length : Int) == 1)) && t5.2) && (t9.2 == 41)) && (t30 == 40)))))], []⟩) ?_ ?_
  · refine .cv (VOk.mv (d := (.v (.int .i64 t1.2))) rfl rfl) rfl rfl ?_
    refine .cv (VOk.arith (op := .eql) (k := .i64) (a := t1.2) (b := 0) rfl rfl rfl rfl) rfl rfl ?_
    refine .cv (VOk.mv (d := (.v (.bool (t1.2 == 0)))) rfl rfl) rfl rfl ?_
    refine OpsOk.consI rfl rfl rfl (.one rfl) rfl (fun hw11 => (VOk.g (VOk.mv (d := (.v (.int .i64 t3.2))) rfl rfl))) ?_
    refine OpsOk.consI rfl rfl rfl (.one rfl) rfl (fun hw11 => (GOk.fr (fr' := [(45, (.v (.int .i64 t3.2)))]) ⟨DLe.of_eq (cT hw11).symm, trivial⟩ (VOk.g (VOk.arith (op := .eql) (k := .i64) (a := t3.2) (b := 0) rfl rfl rfl rfl)))) ?_
    refine .cv (VOk.to (VOk.pickI (b := (t1.2 == 0)) (p := (t3.2 == 0)) (q := false) rfl rfl (fun hp12 => (cT (t_beq hp12))) (fun hp12 => rfl)) (pickAnd (t1.2 == 0) (t3.2 == 0))) rfl rfl ?_
    refine .cv (VOk.mv (d := (.v (.bool ((t1.2 == 0) && (t3.2 == 0))))) rfl rfl) rfl rfl ?_
    refine OpsOk.consI rfl rfl rfl (.one rfl) rfl (fun hw13 => (VOk.g (VOk.mv (d := (L 5 e_api_Service t3.1)) rfl rfl))) ?_
    refine OpsOk.consI rfl rfl rfl (.one rfl) rfl (fun hw13 => (GOk.fr (fr' := [(49, (L 5 e_api_Service t3.1))]) ⟨DLe.of_eq (cT hw13).symm, trivial⟩ (VOk.g (VOk.lenL (e := e_api_Service) (xs := t3.1) rfl Try.underlying30 rfl)))) ?_
    refine OpsOk.consI rfl rfl rfl (.one rfl) rfl (fun hw13 => (GOk.fr (fr' := [(50, (.v (.int .i64 (t3.1.length : Int))))]) ⟨DLe.of_eq (cT hw13).symm, trivial⟩ (VOk.g (VOk.arith (op := .eql) (k := .i64) (a := (t3.1.length : Int)) (b := 2) rfl rfl rfl rfl)))) ?_
    refine .cv (VOk.to (VOk.pickI (b := ((t1.2 == 0) && (t3.2 == 0))) (p := ((t3.1.length : Int) == 2)) (q := false) rfl rfl (fun hp14 => (cT (t_beq hp14))) (fun hp14 => rfl)) (pickAnd ((t1.2 == 0) && (t3.2 == 0)) ((t3.1.length : Int) == 2))) rfl rfl ?_
    refine .cv (VOk.mv (d := (.v (.bool (((t1.2 == 0) && (t3.2 == 0)) && ((t3.1.length : Int) == 2))))) rfl rfl) rfl rfl ?_
    refine OpsOk.consI rfl rfl rfl (.one rfl) rfl (fun hw15 => (VOk.g (VOk.mv (d := (L 5 e_api_Service t3.1)) rfl rfl))) ?_
    refine OpsOk.consI rfl rfl rfl (.one rfl) rfl (fun hw15 => (GOk.fr (fr' := [(54, (L 5 e_api_Service t3.1))]) ⟨DLe.of_eq (cT hw15).symm, trivial⟩ (VOk.g (VOk.indexL (sz := 5) (e := e_api_Service) (xs := t3.1) (i := 0) rfl Try.underlying30 sz39 rfl rfl (c16 hw15))))) ?_
    refine OpsOk.consI rfl rfl rfl (.one rfl) rfl (fun hw15 => (GOk.fr (fr' := [(55, (.fp (e_api_Service (rd t3.1 0)) 0))]) ⟨DLe.of_eq (cT hw15).symm, trivial⟩ (VOk.g (VOk.to (VOk.fieldFp rfl Try.underlying39 rfl sz4 rfl) rfl)))) ?_
    refine OpsOk.consI rfl rfl rfl (.one rfl) rfl (fun hw15 => (GOk.fr (fr' := [(56, (.fp (e_api_Service (rd t3.1 0)) 2))]) ⟨DLe.of_eq (cT hw15).symm, trivial⟩ (VOk.g (VOk.loadFp (d := (.v (.bool ((rd t3.1 0).Inline)))) rfl Try.underlying4 rfl rfl rfl)))) ?_
    refine .cv (VOk.to (VOk.pickI (b := (((t1.2 == 0) && (t3.2 == 0)) && ((t3.1.length : Int) == 2))) (p := (rd t3.1 0).Inline) (q := false) rfl rfl (fun hp17 => (cT (t_beq hp17))) (fun hp17 => rfl)) (pickAnd (((t1.2 == 0) && (t3.2 == 0)) && ((t3.1.length : Int) == 2)) ((rd t3.1 0).Inline))) rfl rfl ?_
    refine .cv (VOk.mv (d := (.v (.bool ((((t1.2 == 0) && (t3.2 == 0)) && ((t3.1.length : Int) == 2)) && ((rd t3.1 0).Inline))))) rfl rfl) rfl rfl ?_
    refine OpsOk.consI rfl rfl rfl (.one rfl) rfl (fun hw18 => (VOk.g (VOk.mv (d := (L 5 e_api_Service t3.1)) rfl rfl))) ?_
    refine OpsOk.consI rfl rfl rfl (.one rfl) rfl (fun hw18 => (GOk.fr (fr' := [(60, (L 5 e_api_Service t3.1))]) ⟨DLe.of_eq (cT hw18).symm, trivial⟩ (VOk.g (VOk.indexL (sz := 5) (e := e_api_Service) (xs := t3.1) (i := 0) rfl Try.underlying30 sz39 rfl rfl (c19 hw18))))) ?_
    refine OpsOk.consI rfl rfl rfl (.one rfl) rfl (fun hw18 => (GOk.fr (fr' := [(61, (.fp (e_api_Service (rd t3.1 0)) 0))]) ⟨DLe.of_eq (cT hw18).symm, trivial⟩ (VOk.g (VOk.to (VOk.fieldFp rfl Try.underlying39 rfl sz36 rfl) rfl)))) ?_
    refine OpsOk.consI rfl rfl rfl (.one rfl) rfl (fun hw18 => (GOk.fr (fr' := [(62, (.fp (e_api_Service (rd t3.1 0)) 1))]) ⟨DLe.of_eq (cT hw18).symm, trivial⟩ (VOk.g (VOk.loadFp (d := (L 4 e_api_Entry ((rd t3.1 0).List_))) rfl Try.underlying36 rfl rfl rfl)))) ?_
    refine OpsOk.consI rfl rfl rfl (.one rfl) rfl (fun hw18 => (GOk.fr (fr' := [(63, (L 4 e_api_Entry ((rd t3.1 0).List_)))]) ⟨DLe.of_eq (cT hw18).symm, trivial⟩ (VOk.g (VOk.lenL (e := e_api_Entry) (xs := (rd t3.1 0).List_) rfl Try.underlying36 rfl)))) ?_
    refine OpsOk.consI rfl rfl rfl (.one rfl) rfl (fun hw18 => (GOk.fr (fr' := [(64, (.v (.int .i64 (((rd t3.1 0).List_).length : Int))))]) ⟨DLe.of_eq (cT hw18).symm, trivial⟩ (VOk.g (VOk.arith (op := .eql) (k := .i64) (a := (((rd t3.1 0).List_).length : Int)) (b := 1) rfl rfl rfl rfl)))) ?_
    refine .cv (VOk.to (VOk.pickI (b := ((((t1.2 == 0) && (t3.2 == 0)) && ((t3.1.length : Int) == 2)) && ((rd t3.1 0).Inline))) (p := ((((rd t3.1 0).List_).length : Int) == 1)) (q := false) rfl rfl (fun hp20 => (cT (t_beq hp20))) (fun hp20 => rfl)) (pickAnd ((((t1.2 == 0) && (t3.2 == 0)) && ((t3.1.length : Int) == 2)) && ((rd t3.1 0).Inline)) ((((rd t3.1 0).List_).length : Int) == 1))) rfl rfl ?_
    refine .cv (VOk.mv (d := (.v (.bool (((((t1.2 == 0) && (t3.2 == 0)) && ((t3.1.length : Int) == 2)) && ((rd t3.1 0).Inline)) && ((((rd t3.1 0).List_).length : Int) == 1))))) rfl rfl) rfl rfl ?_
    refine OpsOk.consI rfl rfl rfl (.one rfl) rfl (fun hw21 => (VOk.g (VOk.to (VOk.fieldB rfl Try.underlying39 rfl sz9 rfl rfl) rfl))) ?_
    refine OpsOk.consI rfl rfl rfl (.one rfl) rfl (fun hw21 => (GOk.fr (fr' := [(68, (.bref 6 3))]) ⟨DLe.of_eq (cT hw21).symm, trivial⟩ (VOk.g (VOk.loadB (d := (S t5.1.Ref)) rfl Try.underlying9 rfl rfl rfl rfl)))) ?_
    refine OpsOk.consI rfl rfl rfl (.one rfl) rfl (fun hw21 => (GOk.fr (fr' := [(69, (S t5.1.Ref))]) ⟨DLe.of_eq (cT hw21).symm, trivial⟩ (VOk.g (VOk.strOp (op := .eql) (a := t5.1.Ref) (b := ([114] : Str)) rfl rfl rfl rfl)))) ?_
    refine .cv (VOk.to (VOk.pickI (b := (((((t1.2 == 0) && (t3.2 == 0)) && ((t3.1.length : Int) == 2)) && ((rd t3.1 0).Inline)) && ((((rd t3.1 0).List_).length : Int) == 1))) (p := (t5.1.Ref == ([114] : Str))) (q := false) rfl rfl (fun hp22 => (cT (t_beq hp22))) (fun hp22 => rfl)) (pickAnd (((((t1.2 == 0) && (t3.2 == 0)) && ((t3.1.length : Int) == 2)) && ((rd t3.1 0).Inline)) && ((((rd t3.1 0).List_).length : Int) == 1)) (t5.1.Ref == ([114] : Str)))) rfl rfl ?_
    refine .cv (VOk.mv (d := (.v (.bool ((((((t1.2 == 0) && (t3.2 == 0)) && ((t3.1.length : Int) == 2)) && ((rd t3.1 0).Inline)) && ((((rd t3.1 0).List_).length : Int) == 1)) && (t5.1.Ref == ([114] : Str)))))) rfl rfl) rfl rfl ?_
    refine OpsOk.consI rfl rfl rfl (.one rfl) rfl (fun hw23 => (VOk.g (VOk.to (VOk.fieldB rfl Try.underlying39 rfl sz37 rfl rfl) rfl))) ?_
    refine OpsOk.consI rfl rfl rfl (.one rfl) rfl (fun hw23 => (GOk.fr (fr' := [(73, (.bref 6 4))]) ⟨DLe.of_eq (cT hw23).symm, trivial⟩ (VOk.g (VOk.loadB (d := (L 1 eS t5.1.Packages)) rfl Try.underlying37 rfl rfl rfl rfl)))) ?_
    refine OpsOk.consI rfl rfl rfl (.one rfl) rfl (fun hw23 => (GOk.fr (fr' := [(74, (L 1 eS t5.1.Packages))]) ⟨DLe.of_eq (cT hw23).symm, trivial⟩ (VOk.g (VOk.lenL (e := eS) (xs := t5.1.Packages) rfl Try.underlying37 rfl)))) ?_
    refine OpsOk.consI rfl rfl rfl (.one rfl) rfl (fun hw23 => (GOk.fr (fr' := [(75, (.v (.int .i64 (t5.1.Packages.length : Int))))]) ⟨DLe.of_eq (cT hw23).symm, trivial⟩ (VOk.g (VOk.arith (op := .eql) (k := .i64) (a := (t5.1.Packages.length : Int)) (b := 1) rfl rfl rfl rfl)))) ?_
    refine .cv (VOk.to (VOk.pickI (b := ((((((t1.2 == 0) && (t3.2 == 0)) && ((t3.1.length : Int) == 2)) && ((rd t3.1 0).Inline)) && ((((rd t3.1 0).List_).length : Int) == 1)) && (t5.1.Ref == ([114] : Str)))) (p := ((t5.1.Packages.length : Int) == 1)) (q := false) rfl rfl (fun hp24 => (cT (t_beq hp24))) (fun hp24 => rfl)) (pickAnd ((((((t1.2 == 0) && (t3.2 == 0)) && ((t3.1.length : Int) == 2)) && ((rd t3.1 0).Inline)) && ((((rd t3.1 0).List_).length : Int) == 1)) && (t5.1.Ref == ([114] : Str))) ((t5.1.Packages.length : Int) == 1))) rfl rfl ?_
    refine .cv (VOk.mv (d := (.v (.bool (((((((t1.2 == 0) && (t3.2 == 0)) && ((t3.1.length : Int) == 2)) && ((rd t3.1 0).Inline)) && ((((rd t3.1 0).List_).length : Int) == 1)) && (t5.1.Ref == ([114] : Str))) && ((t5.1.Packages.length : Int) == 1))))) rfl rfl) rfl rfl ?_
    refine OpsOk.consI rfl rfl rfl (.one rfl) rfl (fun hw25 => (VOk.g (VOk.mv (d := (.v (.bool t5.2))) rfl rfl))) ?_
    refine .cv (VOk.to (VOk.pickI (b := (((((((t1.2 == 0) && (t3.2 == 0)) && ((t3.1.length : Int) == 2)) && ((rd t3.1 0).Inline)) && ((((rd t3.1 0).List_).length : Int) == 1)) && (t5.1.Ref == ([114] : Str))) && ((t5.1.Packages.length : Int) == 1))) (p := t5.2) (q := false) rfl rfl (fun hp26 => (cT (t_beq hp26))) (fun hp26 => rfl)) (pickAnd (((((((t1.2 == 0) && (t3.2 == 0)) && ((t3.1.length : Int) == 2)) && ((rd t3.1 0).Inline)) && ((((rd t3.1 0).List_).length : Int) == 1)) && (t5.1.Ref == ([114] : Str))) && ((t5.1.Packages.length : Int) == 1)) t5.2)) rfl rfl ?_
    refine .cv (VOk.mv (d := (.v (.bool ((((((((t1.2 == 0) && (t3.2 == 0)) && ((t3.1.length : Int) == 2)) && ((rd t3.1 0).Inline)) && ((((rd t3.1 0).List_).length : Int) == 1)) && (t5.1.Ref == ([114] : Str))) && ((t5.1.Packages.length : Int) == 1)) && t5.2)))) rfl rfl) rfl rfl ?_
    refine OpsOk.consI rfl rfl rfl (.one rfl) rfl (fun hw27 => (VOk.g (VOk.mv (d := (.v (.int .i64 t9.2))) rfl rfl))) ?_
    refine OpsOk.consI rfl rfl rfl (.one rfl) rfl (fun hw27 => (GOk.fr (fr' := [(82, (.v (.int .i64 t9.2)))]) ⟨DLe.of_eq (cT hw27).symm, trivial⟩ (VOk.g (VOk.arith (op := .eql) (k := .i64) (a := t9.2) (b := 41) rfl rfl rfl rfl)))) ?_
    refine .cv (VOk.to (VOk.pickI (b := ((((((((t1.2 == 0) && (t3.2 == 0)) && ((t3.1.length : Int) == 2)) && ((rd t3.1 0).Inline)) && ((((rd t3.1 0).List_).length : Int) == 1)) && (t5.1.Ref == ([114] : Str))) && ((t5.1.Packages.length : Int) == 1)) && t5.2)) (p := (t9.2 == 41)) (q := false) rfl rfl (fun hp28 => (cT (t_beq hp28))) (fun hp28 => rfl)) (pickAnd ((((((((t1.2 == 0) && (t3.2 == 0)) && ((t3.1.length : Int) == 2)) && ((rd t3.1 0).Inline)) && ((((rd t3.1 0).List_).length : Int) == 1)) && (t5.1.Ref == ([114] : Str))) && ((t5.1.Packages.length : Int) == 1)) && t5.2) (t9.2 == 41))) rfl rfl ?_
    refine .cv (VOk.mv (d := (.v (.bool (((((((((t1.2 == 0) && (t3.2 == 0)) && ((t3.1.length : Int) == 2)) && ((rd t3.1 0).Inline)) && ((((rd t3.1 0).List_).length : Int) == 1)) && (t5.1.Ref == ([114] : Str))) && ((t5.1.Packages.length : Int) == 1)) && t5.2) && (t9.2 == 41))))) rfl rfl) rfl rfl ?_
    refine OpsOk.consI rfl rfl rfl (.one rfl) rfl (fun hw29 => (VOk.g (VOk.to (d' := (.agg (e_api_Node (T_api_Node.mk 0 (T_api_Name.mk ([] : Str) ([] : Str)) ([] : List T_api_Attr) ([] : List T_api_Node) ([] : Str))))) (.build [none, none, none, some 3, some 6, none] [(0, 1), (1, 2), (3, 1), (4, 1), (5, 1)] rfl Try.underlying27 (fa27 Try.underlying27) zo27 rfl rfl) (congrArg D.agg (e_api_Node_c (T_api_Node.mk 0 (T_api_Name.mk ([] : Str) ([] : Str)) ([] : List T_api_Attr) ([] : List T_api_Node) ([] : Str))).symm)))) ?_
    refine OpsOk.consI rfl rfl rfl (.one rfl) rfl (fun hw29 => (GOk.fr (fr' := [(86, (.agg (e_api_Node (T_api_Node.mk 0 (T_api_Name.mk ([] : Str) ([] : Str)) ([] : List T_api_Attr) ([] : List T_api_Node) ([] : Str)))))]) ⟨DLe.of_eq (cT hw29).symm, trivial⟩ (GOk.call rfl rfl cl15 rfl (services_Check.ok (ifT h31 hw29)) rfl))) ?_
    refine OpsOk.consI rfl rfl rfl (.one rfl) rfl (fun hw29 => (GOk.fr (fr' := [(87, (.v (.int .i64 t30)))]) ⟨DLe.of_eq (cT hw29).symm, trivial⟩ (VOk.g (VOk.arith (op := .eql) (k := .i64) (a := t30) (b := 40) rfl rfl rfl rfl)))) ?_
    refine .cv (VOk.to (VOk.pickI (b := (((((((((t1.2 == 0) && (t3.2 == 0)) && ((t3.1.length : Int) == 2)) && ((rd t3.1 0).Inline)) && ((((rd t3.1 0).List_).length : Int) == 1)) && (t5.1.Ref == ([114] : Str))) && ((t5.1.Packages.length : Int) == 1)) && t5.2) && (t9.2 == 41))) (p := (t30 == 40)) (q := false) rfl rfl (fun hp32 => (cT (t_beq hp32))) (fun hp32 => rfl)) (pickAnd (((((((((t1.2 == 0) && (t3.2 == 0)) && ((t3.1.length : Int) == 2)) && ((rd t3.1 0).Inline)) && ((((rd t3.1 0).List_).length : Int) == 1)) && (t5.1.Ref == ([114] : Str))) && ((t5.1.Packages.length : Int) == 1)) && t5.2) && (t9.2 == 41)) (t30 == 40))) rfl rfl ?_
    refine .cv (VOk.asg (d := (.v (.bool ((((((((((t1.2 == 0) && (t3.2 == 0)) && ((t3.1.length : Int) == 2)) && ((rd t3.1 0).Inline)) && ((((rd t3.1 0).List_).length : Int) == 1)) && (t5.1.Ref == ([114] : Str))) && ((t5.1.Packages.length : Int) == 1)) && t5.2) && (t9.2 == 41)) && (t30 == 40))))) rfl rfl) rfl rfl ?_
    exact .done (.rf rfl rfl)
  refine Ok.ret ?_
  obtain rfl := Option.some.inj H
  exact ⟨.inl rfl, ⟨_, (.cons (.tmp rfl) .nil), rfl⟩, trivial⟩

/-! watchbill/watchbilllaw16.weigh: function 62 -/
def watchbilllaw16_weigh.l0 (k : Nat) (self : List T_api_Entry → Int → Option Int) (a0 : List T_api_Entry) (a1 : Int) : Nat → Int → Int → Option Int
  | 0, _, _ => none
  | m5 + 1, x5_1, x6_2 => (if ((decide (x6_2 < (a0.length : Int))) && (decide (x5_1 ≤ a1))) = true then (if (0 : Int) ≤ x6_2 ∧ x6_2 < (a0.length : Int) then (if (0 : Int) ≤ x6_2 ∧ x6_2 < (a0.length : Int) then (if (decide ((IntKind.i64.wrap ((IntKind.i64.wrap ((IntKind.i64.wrap (x5_1 + 1)) + (if a1 < (((rd a0 x6_2).URI).length : Int) then a1 else (((rd a0 x6_2).URI).length : Int)))) + (if a1 < (((rd a0 x6_2).Name).length : Int) then a1 else (((rd a0 x6_2).Name).length : Int)))) ≤ a1)) = true then (if (0 : Int) ≤ x6_2 ∧ x6_2 < (a0.length : Int) then ((self ((rd a0 x6_2).List_) (IntKind.i64.wrap (a1 - (IntKind.i64.wrap ((IntKind.i64.wrap ((IntKind.i64.wrap (x5_1 + 1)) + (if a1 < (((rd a0 x6_2).URI).length : Int) then a1 else (((rd a0 x6_2).URI).length : Int)))) + (if a1 < (((rd a0 x6_2).Name).length : Int) then a1 else (((rd a0 x6_2).Name).length : Int))))))).bind fun (t11 : Int) => watchbilllaw16_weigh.l0 k self a0 a1 m5 (IntKind.i64.wrap ((IntKind.i64.wrap ((IntKind.i64.wrap ((IntKind.i64.wrap (x5_1 + 1)) + (if a1 < (((rd a0 x6_2).URI).length : Int) then a1 else (((rd a0 x6_2).URI).length : Int)))) + (if a1 < (((rd a0 x6_2).Name).length : Int) then a1 else (((rd a0 x6_2).Name).length : Int)))) + t11)) (IntKind.i64.wrap (x6_2 + 1))) else none) else watchbilllaw16_weigh.l0 k self a0 a1 m5 (IntKind.i64.wrap ((IntKind.i64.wrap ((IntKind.i64.wrap (x5_1 + 1)) + (if a1 < (((rd a0 x6_2).URI).length : Int) then a1 else (((rd a0 x6_2).URI).length : Int)))) + (if a1 < (((rd a0 x6_2).Name).length : Int) then a1 else (((rd a0 x6_2).Name).length : Int)))) (IntKind.i64.wrap (x6_2 + 1))) else none) else none) else some x5_1)
def watchbilllaw16_weigh : Nat → List T_api_Entry → Int → Option Int
  | 0, _, _ => none
  | k + 1, a0, a1 => watchbilllaw16_weigh.l0 k (watchbilllaw16_weigh k) a0 a1 k 0 0
theorem watchbilllaw16_weigh.ok {k : Nat} {a0 : List T_api_Entry} {a1 : Int} {r : Int} (H : watchbilllaw16_weigh k a0 a1 = some r) : Vx.Fn Try.prog 62 [(L 4 e_api_Entry a0), (.v (.int .i64 a1))] [] (.v (.int .i64 r)) [] := by
  induction k generalizing a0 a1 r with
  | zero => exact absurd H (by simp [watchbilllaw16_weigh])
  | succ k ih =>
    unfold watchbilllaw16_weigh at H
    refine Vx.Fn.of_okR Try.func62 rfl (Nat.le_of_ble_eq_true rfl) ?_
    refine Ok.seq ?_
    refine Ok.region (σ' := ⟨[(0, (L 4 e_api_Entry a0)), (1, (.v (.int .i64 a1)))], []⟩) ?_ ?_
    · refine .cv (VOk.asg (d := (.v (.int .i64 0))) rfl rfl) rfl rfl ?_
      exact .done (.rf rfl rfl)
    refine Ok.seq ?_
    refine Ok.region (σ' := ⟨[(0, (L 4 e_api_Entry a0)), (1, (.v (.int .i64 a1))), (5, (.v (.int .i64 0)))], []⟩) ?_ ?_
    · refine .cv (VOk.asg (d := (.v (.int .i64 0))) rfl rfl) rfl rfl ?_
      exact .done (.rf rfl rfl)
    refine Ok.seq ?_
    refine Ok.seq ?_
    refine Ok.region (σ' := ⟨[(0, (L 4 e_api_Entry a0)), (1, (.v (.int .i64 a1))), (5, (.v (.int .i64 0))), (6, (.v (.int .i64 0)))], []⟩) ?_ ?_
    · refine .cv (VOk.asg (d := (.v (.int .i64 0))) rfl rfl) rfl rfl ?_
      exact .done (.rf rfl rfl)
    refine Ok.block ?_
    refine Ok.le (σ' := ⟨[(0, (L 4 e_api_Entry a0)), (1, (.v (.int .i64 a1))), (5, (.v (.int .i64 0))), (6, (.v (.int .i64 0)))], []⟩) (.rf rfl rfl) ?_
    refine Ok.loop (fun m5 σ => ∃ (x5_1 : Int) (x6_2 : Int), σ = ⟨[(0, (L 4 e_api_Entry a0)), (1, (.v (.int .i64 a1))), (5, (.v (.int .i64 x5_1))), (6, (.v (.int .i64 x6_2)))], []⟩ ∧ watchbilllaw16_weigh.l0 k (watchbilllaw16_weigh k) a0 a1 m5 x5_1 x6_2 = some r) k ⟨0, 0, rfl, H⟩ ?_
    rintro m5 σ ⟨x5_1, x6_2, rfl, H⟩
    cases m5 with
    | zero => exact absurd H (by simp [watchbilllaw16_weigh.l0])
    | succ m5 =>
      unfold watchbilllaw16_weigh.l0 at H
      refine Ok.seq ?_
      refine Ok.seq ?_
      refine Ok.region (σ' := ⟨[(0, (L 4 e_api_Entry a0)), (1, (.v (.int .i64 a1))), (5, (.v (.int .i64 x5_1))), (6, (.v (.int .i64 x6_2))), (15, (.v (.bool ((decide (x6_2 < (a0.length : Int))) && (decide (x5_1 ≤ a1))))))], []⟩) ?_ ?_
      · refine .cv (VOk.mv (d := (.v (.int .i64 x6_2))) rfl rfl) rfl rfl ?_
        refine .cv (VOk.mv (d := (L 4 e_api_Entry a0)) rfl rfl) rfl rfl ?_
        refine .cv (VOk.lenL (e := e_api_Entry) (xs := a0) rfl Try.underlying36 rfl) rfl rfl ?_
        refine .cv (VOk.arith (op := .lss) (k := .i64) (a := x6_2) (b := (a0.length : Int)) rfl rfl rfl rfl) rfl rfl ?_
        refine .cv (VOk.mv (d := (.v (.bool (decide (x6_2 < (a0.length : Int)))))) rfl rfl) rfl rfl ?_
        refine OpsOk.consI rfl rfl rfl (.one rfl) rfl (fun hw6 => (VOk.g (VOk.mv (d := (.v (.int .i64 x5_1))) rfl rfl))) ?_
        refine OpsOk.consI rfl rfl rfl (.one rfl) rfl (fun hw6 => (VOk.g (VOk.mv (d := (.v (.int .i64 a1))) rfl rfl))) ?_
        refine OpsOk.consI rfl rfl rfl (.one rfl) rfl (fun hw6 => (GOk.fr (fr' := [(12, (.v (.int .i64 x5_1))), (13, (.v (.int .i64 a1)))]) ⟨DLe.of_eq (cT hw6).symm, DLe.of_eq (cT hw6).symm, trivial⟩ (VOk.g (VOk.arith (op := .leq) (k := .i64) (a := x5_1) (b := a1) rfl rfl rfl rfl)))) ?_
        refine .cv (VOk.to (VOk.pickI (b := (decide (x6_2 < (a0.length : Int)))) (p := (decide (x5_1 ≤ a1))) (q := false) rfl rfl (fun hp7 => (cT (t_beq hp7))) (fun hp7 => rfl)) (pickAnd (decide (x6_2 < (a0.length : Int))) (decide (x5_1 ≤ a1)))) rfl rfl ?_
        exact .done (.rf rfl rfl)
      refine Ok.test (b := ((decide (x6_2 < (a0.length : Int))) && (decide (x5_1 ≤ a1)))) rfl (fun hb14 => ?_) (fun hb14 => ?_)
      · replace H := ifT H hb14
        refine Ok.skip ?_
        refine Ok.seq ?_
        refine Ok.block ?_
        refine Ok.seq ?_
        obtain ⟨c8, H⟩ := assertE H
        obtain ⟨c9, H⟩ := assertE H
        refine Ok.drawE (σ' := ⟨[(0, (L 4 e_api_Entry a0)), (1, (.v (.int .i64 a1))), (5, (.v (.int .i64 (IntKind.i64.wrap ((IntKind.i64.wrap ((IntKind.i64.wrap (x5_1 + 1)) + (if a1 < (((rd a0 x6_2).URI).length : Int) then a1 else (((rd a0 x6_2).URI).length : Int)))) + (if a1 < (((rd a0 x6_2).Name).length : Int) then a1 else (((rd a0 x6_2).Name).length : Int))))))), (6, (.v (.int .i64 x6_2)))], []⟩) [⟨true, [(5, (.v (.int .i64 x5_1)))], (.v (.int .i64 x5_1))⟩, ⟨true, [(18, (.v (.int .i64 x5_1)))], (.v (.int .i64 (IntKind.i64.wrap (x5_1 + 1))))⟩, ⟨true, [(0, (L 4 e_api_Entry a0))], (L 4 e_api_Entry a0)⟩, ⟨true, [(6, (.v (.int .i64 x6_2)))], (.v (.int .i64 x6_2))⟩, ⟨true, [(20, (L 4 e_api_Entry a0)), (21, (.v (.int .i64 x6_2)))], (.fp (e_api_Entry (rd a0 x6_2)) 0)⟩, ⟨true, [(22, (.fp (e_api_Entry (rd a0 x6_2)) 0))], (.fp (e_api_Entry (rd a0 x6_2)) 1)⟩, ⟨true, [(23, (.fp (e_api_Entry (rd a0 x6_2)) 1))], (S ((rd a0 x6_2).URI))⟩, ⟨true, [(24, (S ((rd a0 x6_2).URI)))], (.v (.int .i64 (((rd a0 x6_2).URI).length : Int)))⟩, ⟨true, [(1, (.v (.int .i64 a1)))], (.v (.int .i64 a1))⟩, ⟨true, [(25, (.v (.int .i64 (((rd a0 x6_2).URI).length : Int)))), (26, (.v (.int .i64 a1)))], (.v (.int .i64 (if a1 < (((rd a0 x6_2).URI).length : Int) then a1 else (((rd a0 x6_2).URI).length : Int))))⟩, ⟨true, [(19, (.v (.int .i64 (IntKind.i64.wrap (x5_1 + 1))))), (27, (.v (.int .i64 (if a1 < (((rd a0 x6_2).URI).length : Int) then a1 else (((rd a0 x6_2).URI).length : Int)))))], (.v (.int .i64 (IntKind.i64.wrap ((IntKind.i64.wrap (x5_1 + 1)) + (if a1 < (((rd a0 x6_2).URI).length : Int) then a1 else (((rd a0 x6_2).URI).length : Int))))))⟩, ⟨true, [(0, (L 4 e_api_Entry a0))], (L 4 e_api_Entry a0)⟩, ⟨true, [(6, (.v (.int .i64 x6_2)))], (.v (.int .i64 x6_2))⟩, ⟨true, [(29, (L 4 e_api_Entry a0)), (30, (.v (.int .i64 x6_2)))], (.fp (e_api_Entry (rd a0 x6_2)) 0)⟩, ⟨true, [(31, (.fp (e_api_Entry (rd a0 x6_2)) 0))], (.fp (e_api_Entry (rd a0 x6_2)) 2)⟩, ⟨true, [(32, (.fp (e_api_Entry (rd a0 x6_2)) 2))], (S ((rd a0 x6_2).Name))⟩, ⟨true, [(33, (S ((rd a0 x6_2).Name)))], (.v (.int .i64 (((rd a0 x6_2).Name).length : Int)))⟩, ⟨true, [(1, (.v (.int .i64 a1)))], (.v (.int .i64 a1))⟩, ⟨true, [(34, (.v (.int .i64 (((rd a0 x6_2).Name).length : Int)))), (35, (.v (.int .i64 a1)))], (.v (.int .i64 (if a1 < (((rd a0 x6_2).Name).length : Int) then a1 else (((rd a0 x6_2).Name).length : Int))))⟩, ⟨true, [(28, (.v (.int .i64 (IntKind.i64.wrap ((IntKind.i64.wrap (x5_1 + 1)) + (if a1 < (((rd a0 x6_2).URI).length : Int) then a1 else (((rd a0 x6_2).URI).length : Int))))))), (36, (.v (.int .i64 (if a1 < (((rd a0 x6_2).Name).length : Int) then a1 else (((rd a0 x6_2).Name).length : Int)))))], (.v (.int .i64 (IntKind.i64.wrap ((IntKind.i64.wrap ((IntKind.i64.wrap (x5_1 + 1)) + (if a1 < (((rd a0 x6_2).URI).length : Int) then a1 else (((rd a0 x6_2).URI).length : Int)))) + (if a1 < (((rd a0 x6_2).Name).length : Int) then a1 else (((rd a0 x6_2).Name).length : Int))))))⟩, ⟨true, [(37, (.v (.int .i64 (IntKind.i64.wrap ((IntKind.i64.wrap ((IntKind.i64.wrap (x5_1 + 1)) + (if a1 < (((rd a0 x6_2).URI).length : Int) then a1 else (((rd a0 x6_2).URI).length : Int)))) + (if a1 < (((rd a0 x6_2).Name).length : Int) then a1 else (((rd a0 x6_2).Name).length : Int)))))))], (.v (.int .i64 (IntKind.i64.wrap ((IntKind.i64.wrap ((IntKind.i64.wrap (x5_1 + 1)) + (if a1 < (((rd a0 x6_2).URI).length : Int) then a1 else (((rd a0 x6_2).URI).length : Int)))) + (if a1 < (((rd a0 x6_2).Name).length : Int) then a1 else (((rd a0 x6_2).Name).length : Int))))))⟩] [[], [0], [], [], [2, 3], [4], [5], [6], [], [7, 8], [1, 9], [], [], [11, 12], [13], [14], [15], [], [16, 17], [10, 18], [0, 19]] mixed (by kernel_rfl) ?_ ?_
        · refine TxtE.cons rfl ⟨.same _, trivial⟩ rfl (VOk.g (VOk.mv (d := (.v (.int .i64 x5_1))) rfl rfl)) ?_
          refine TxtE.cons rfl ⟨.same _, trivial⟩ rfl (VOk.g (VOk.arith (op := .add) (k := .i64) (a := x5_1) (b := 1) rfl rfl rfl rfl)) ?_
          refine TxtE.cons rfl ⟨.same _, trivial⟩ rfl (VOk.g (VOk.mv (d := (L 4 e_api_Entry a0)) rfl rfl)) ?_
          refine TxtE.cons rfl ⟨.same _, trivial⟩ rfl (VOk.g (VOk.mv (d := (.v (.int .i64 x6_2))) rfl rfl)) ?_
          refine TxtE.cons rfl ⟨.same _, .same _, trivial⟩ rfl (VOk.g (VOk.indexL (sz := 4) (e := e_api_Entry) (xs := a0) (i := x6_2) rfl Try.underlying36 sz56 rfl rfl c8)) ?_
          refine TxtE.cons rfl ⟨.same _, trivial⟩ rfl (VOk.g (VOk.to (VOk.fieldFp rfl Try.underlying56 rfl sz9 rfl) rfl)) ?_
          refine TxtE.cons rfl ⟨.same _, trivial⟩ rfl (VOk.g (VOk.loadFp (d := (S ((rd a0 x6_2).URI))) rfl Try.underlying9 rfl rfl rfl)) ?_
          refine TxtE.cons rfl ⟨.same _, trivial⟩ rfl (VOk.g (VOk.lenStr (s := (rd a0 x6_2).URI) rfl Try.underlying9 rfl)) ?_
          refine TxtE.cons rfl ⟨.same _, trivial⟩ rfl (VOk.g (VOk.mv (d := (.v (.int .i64 a1))) rfl rfl)) ?_
          refine TxtE.cons rfl ⟨.same _, .same _, trivial⟩ rfl (VOk.g (VOk.min2 (a := (((rd a0 x6_2).URI).length : Int)) (b := a1) rfl rfl rfl)) ?_
          refine TxtE.cons rfl ⟨.same _, .same _, trivial⟩ rfl (VOk.g (VOk.arith (op := .add) (k := .i64) (a := (IntKind.i64.wrap (x5_1 + 1))) (b := (if a1 < (((rd a0 x6_2).URI).length : Int) then a1 else (((rd a0 x6_2).URI).length : Int))) rfl rfl rfl rfl)) ?_
          refine TxtE.cons rfl ⟨.same _, trivial⟩ rfl (VOk.g (VOk.mv (d := (L 4 e_api_Entry a0)) rfl rfl)) ?_
          refine TxtE.cons rfl ⟨.same _, trivial⟩ rfl (VOk.g (VOk.mv (d := (.v (.int .i64 x6_2))) rfl rfl)) ?_
          refine TxtE.cons rfl ⟨.same _, .same _, trivial⟩ rfl (VOk.g (VOk.indexL (sz := 4) (e := e_api_Entry) (xs := a0) (i := x6_2) rfl Try.underlying36 sz56 rfl rfl c9)) ?_
          refine TxtE.cons rfl ⟨.same _, trivial⟩ rfl (VOk.g (VOk.to (VOk.fieldFp rfl Try.underlying56 rfl sz9 rfl) rfl)) ?_
          refine TxtE.cons rfl ⟨.same _, trivial⟩ rfl (VOk.g (VOk.loadFp (d := (S ((rd a0 x6_2).Name))) rfl Try.underlying9 rfl rfl rfl)) ?_
          refine TxtE.cons rfl ⟨.same _, trivial⟩ rfl (VOk.g (VOk.lenStr (s := (rd a0 x6_2).Name) rfl Try.underlying9 rfl)) ?_
          refine TxtE.cons rfl ⟨.same _, trivial⟩ rfl (VOk.g (VOk.mv (d := (.v (.int .i64 a1))) rfl rfl)) ?_
          refine TxtE.cons rfl ⟨.same _, .same _, trivial⟩ rfl (VOk.g (VOk.min2 (a := (((rd a0 x6_2).Name).length : Int)) (b := a1) rfl rfl rfl)) ?_
          refine TxtE.cons rfl ⟨.same _, .same _, trivial⟩ rfl (VOk.g (VOk.arith (op := .add) (k := .i64) (a := (IntKind.i64.wrap ((IntKind.i64.wrap (x5_1 + 1)) + (if a1 < (((rd a0 x6_2).URI).length : Int) then a1 else (((rd a0 x6_2).URI).length : Int))))) (b := (if a1 < (((rd a0 x6_2).Name).length : Int) then a1 else (((rd a0 x6_2).Name).length : Int))) rfl rfl rfl rfl)) ?_
          refine TxtE.cons rfl ⟨.same _, trivial⟩ rfl (VOk.g (VOk.asg (d := (.v (.int .i64 (IntKind.i64.wrap ((IntKind.i64.wrap ((IntKind.i64.wrap (x5_1 + 1)) + (if a1 < (((rd a0 x6_2).URI).length : Int) then a1 else (((rd a0 x6_2).URI).length : Int)))) + (if a1 < (((rd a0 x6_2).Name).length : Int) then a1 else (((rd a0 x6_2).Name).length : Int))))))) rfl rfl)) ?_
          exact .done (.rf rfl rfl)
        refine Ok.seq ?_
        refine Ok.region (σ' := ⟨[(0, (L 4 e_api_Entry a0)), (1, (.v (.int .i64 a1))), (5, (.v (.int .i64 (IntKind.i64.wrap ((IntKind.i64.wrap ((IntKind.i64.wrap (x5_1 + 1)) + (if a1 < (((rd a0 x6_2).URI).length : Int) then a1 else (((rd a0 x6_2).URI).length : Int)))) + (if a1 < (((rd a0 x6_2).Name).length : Int) then a1 else (((rd a0 x6_2).Name).length : Int))))))), (6, (.v (.int .i64 x6_2))), (40, (.v (.bool (decide ((IntKind.i64.wrap ((IntKind.i64.wrap ((IntKind.i64.wrap (x5_1 + 1)) + (if a1 < (((rd a0 x6_2).URI).length : Int) then a1 else (((rd a0 x6_2).URI).length : Int)))) + (if a1 < (((rd a0 x6_2).Name).length : Int) then a1 else (((rd a0 x6_2).Name).length : Int)))) ≤ a1)))))], []⟩) ?_ ?_
        · refine .cv (VOk.mv (d := (.v (.int .i64 (IntKind.i64.wrap ((IntKind.i64.wrap ((IntKind.i64.wrap (x5_1 + 1)) + (if a1 < (((rd a0 x6_2).URI).length : Int) then a1 else (((rd a0 x6_2).URI).length : Int)))) + (if a1 < (((rd a0 x6_2).Name).length : Int) then a1 else (((rd a0 x6_2).Name).length : Int))))))) rfl rfl) rfl rfl ?_
          refine .cv (VOk.mv (d := (.v (.int .i64 a1))) rfl rfl) rfl rfl ?_
          refine .cv (VOk.arith (op := .leq) (k := .i64) (a := (IntKind.i64.wrap ((IntKind.i64.wrap ((IntKind.i64.wrap (x5_1 + 1)) + (if a1 < (((rd a0 x6_2).URI).length : Int) then a1 else (((rd a0 x6_2).URI).length : Int)))) + (if a1 < (((rd a0 x6_2).Name).length : Int) then a1 else (((rd a0 x6_2).Name).length : Int))))) (b := a1) rfl rfl rfl rfl) rfl rfl ?_
          exact .done (.rf rfl rfl)
        refine Ok.test (b := (decide ((IntKind.i64.wrap ((IntKind.i64.wrap ((IntKind.i64.wrap (x5_1 + 1)) + (if a1 < (((rd a0 x6_2).URI).length : Int) then a1 else (((rd a0 x6_2).URI).length : Int)))) + (if a1 < (((rd a0 x6_2).Name).length : Int) then a1 else (((rd a0 x6_2).Name).length : Int)))) ≤ a1))) rfl (fun hb13 => ?_) (fun hb13 => ?_)
        · replace H := ifT H hb13
          obtain ⟨c10, H⟩ := assertE H
          obtain ⟨t11, h12, H⟩ := bindE H
          refine Ok.region (σ' := ⟨[(0, (L 4 e_api_Entry a0)), (1, (.v (.int .i64 a1))), (5, (.v (.int .i64 (IntKind.i64.wrap ((IntKind.i64.wrap ((IntKind.i64.wrap ((IntKind.i64.wrap (x5_1 + 1)) + (if a1 < (((rd a0 x6_2).URI).length : Int) then a1 else (((rd a0 x6_2).URI).length : Int)))) + (if a1 < (((rd a0 x6_2).Name).length : Int) then a1 else (((rd a0 x6_2).Name).length : Int)))) + t11))))), (6, (.v (.int .i64 x6_2)))], []⟩) ?_ ?_
          · refine .cv (VOk.mv (d := (.v (.int .i64 (IntKind.i64.wrap ((IntKind.i64.wrap ((IntKind.i64.wrap (x5_1 + 1)) + (if a1 < (((rd a0 x6_2).URI).length : Int) then a1 else (((rd a0 x6_2).URI).length : Int)))) + (if a1 < (((rd a0 x6_2).Name).length : Int) then a1 else (((rd a0 x6_2).Name).length : Int))))))) rfl rfl) rfl rfl ?_
            refine .cv (VOk.mv (d := (L 4 e_api_Entry a0)) rfl rfl) rfl rfl ?_
            refine .cv (VOk.mv (d := (.v (.int .i64 x6_2))) rfl rfl) rfl rfl ?_
            refine .cv (VOk.indexL (sz := 4) (e := e_api_Entry) (xs := a0) (i := x6_2) rfl Try.underlying36 sz56 rfl rfl c10) rfl rfl ?_
            refine .cv (VOk.to (VOk.fieldFp rfl Try.underlying56 rfl sz36 rfl) rfl) rfl rfl ?_
            refine .cv (VOk.to (d' := (L 4 e_api_Entry ((rd a0 x6_2).List_))) (VOk.loadFp (d := (L 4 r_api_Entry ((rd a0 x6_2).List_))) rfl Try.underlying36 rfl rfl rfl) (by rw [r_api_Entry_eq])) rfl rfl ?_
            refine .cv (VOk.mv (d := (.v (.int .i64 a1))) rfl rfl) rfl rfl ?_
            refine .cv (VOk.mv (d := (.v (.int .i64 (IntKind.i64.wrap ((IntKind.i64.wrap ((IntKind.i64.wrap (x5_1 + 1)) + (if a1 < (((rd a0 x6_2).URI).length : Int) then a1 else (((rd a0 x6_2).URI).length : Int)))) + (if a1 < (((rd a0 x6_2).Name).length : Int) then a1 else (((rd a0 x6_2).Name).length : Int))))))) rfl rfl) rfl rfl ?_
            refine .cv (VOk.arith (op := .sub) (k := .i64) (a := a1) (b := (IntKind.i64.wrap ((IntKind.i64.wrap ((IntKind.i64.wrap (x5_1 + 1)) + (if a1 < (((rd a0 x6_2).URI).length : Int) then a1 else (((rd a0 x6_2).URI).length : Int)))) + (if a1 < (((rd a0 x6_2).Name).length : Int) then a1 else (((rd a0 x6_2).Name).length : Int))))) rfl rfl rfl rfl) rfl rfl ?_
            refine .cg (GOk.call rfl rfl cl62 rfl (@ih _ _ _ h12) rfl) rfl rfl ?_
            refine .cv (VOk.arith (op := .add) (k := .i64) (a := (IntKind.i64.wrap ((IntKind.i64.wrap ((IntKind.i64.wrap (x5_1 + 1)) + (if a1 < (((rd a0 x6_2).URI).length : Int) then a1 else (((rd a0 x6_2).URI).length : Int)))) + (if a1 < (((rd a0 x6_2).Name).length : Int) then a1 else (((rd a0 x6_2).Name).length : Int))))) (b := t11) rfl rfl rfl rfl) rfl rfl ?_
            refine .cv (VOk.asg (d := (.v (.int .i64 (IntKind.i64.wrap ((IntKind.i64.wrap ((IntKind.i64.wrap ((IntKind.i64.wrap (x5_1 + 1)) + (if a1 < (((rd a0 x6_2).URI).length : Int) then a1 else (((rd a0 x6_2).URI).length : Int)))) + (if a1 < (((rd a0 x6_2).Name).length : Int) then a1 else (((rd a0 x6_2).Name).length : Int)))) + t11))))) rfl rfl) rfl rfl ?_
            exact .done (.rf rfl rfl)
          refine Ok.region (σ' := ⟨[(0, (L 4 e_api_Entry a0)), (1, (.v (.int .i64 a1))), (5, (.v (.int .i64 (IntKind.i64.wrap ((IntKind.i64.wrap ((IntKind.i64.wrap ((IntKind.i64.wrap (x5_1 + 1)) + (if a1 < (((rd a0 x6_2).URI).length : Int) then a1 else (((rd a0 x6_2).URI).length : Int)))) + (if a1 < (((rd a0 x6_2).Name).length : Int) then a1 else (((rd a0 x6_2).Name).length : Int)))) + t11))))), (6, (.v (.int .i64 (IntKind.i64.wrap (x6_2 + 1)))))], []⟩) ?_ ?_
          · refine .cv (VOk.mv (d := (.v (.int .i64 x6_2))) rfl rfl) rfl rfl ?_
            refine .cv (VOk.arith (op := .add) (k := .i64) (a := x6_2) (b := 1) rfl rfl rfl rfl) rfl rfl ?_
            refine .cv (VOk.asg (d := (.v (.int .i64 (IntKind.i64.wrap (x6_2 + 1))))) rfl rfl) rfl rfl ?_
            exact .done (.rf rfl rfl)
          exact ⟨m5, Nat.lt_succ_self m5, (IntKind.i64.wrap ((IntKind.i64.wrap ((IntKind.i64.wrap ((IntKind.i64.wrap (x5_1 + 1)) + (if a1 < (((rd a0 x6_2).URI).length : Int) then a1 else (((rd a0 x6_2).URI).length : Int)))) + (if a1 < (((rd a0 x6_2).Name).length : Int) then a1 else (((rd a0 x6_2).Name).length : Int)))) + t11)), (IntKind.i64.wrap (x6_2 + 1)), rfl, H⟩
        · replace H := ifF H hb13
          refine Ok.skip ?_
          refine Ok.region (σ' := ⟨[(0, (L 4 e_api_Entry a0)), (1, (.v (.int .i64 a1))), (5, (.v (.int .i64 (IntKind.i64.wrap ((IntKind.i64.wrap ((IntKind.i64.wrap (x5_1 + 1)) + (if a1 < (((rd a0 x6_2).URI).length : Int) then a1 else (((rd a0 x6_2).URI).length : Int)))) + (if a1 < (((rd a0 x6_2).Name).length : Int) then a1 else (((rd a0 x6_2).Name).length : Int))))))), (6, (.v (.int .i64 (IntKind.i64.wrap (x6_2 + 1)))))], []⟩) ?_ ?_
          · refine .cv (VOk.mv (d := (.v (.int .i64 x6_2))) rfl rfl) rfl rfl ?_
            refine .cv (VOk.arith (op := .add) (k := .i64) (a := x6_2) (b := 1) rfl rfl rfl rfl) rfl rfl ?_
            refine .cv (VOk.asg (d := (.v (.int .i64 (IntKind.i64.wrap (x6_2 + 1))))) rfl rfl) rfl rfl ?_
            exact .done (.rf rfl rfl)
          exact ⟨m5, Nat.lt_succ_self m5, (IntKind.i64.wrap ((IntKind.i64.wrap ((IntKind.i64.wrap (x5_1 + 1)) + (if a1 < (((rd a0 x6_2).URI).length : Int) then a1 else (((rd a0 x6_2).URI).length : Int)))) + (if a1 < (((rd a0 x6_2).Name).length : Int) then a1 else (((rd a0 x6_2).Name).length : Int)))), (IntKind.i64.wrap (x6_2 + 1)), rfl, H⟩
      · replace H := ifF H hb14
        refine Ok.exit ?_
        refine Ok.seq ?_
        refine Ok.region (σ' := ⟨[(4, (.v (.int .i64 x5_1)))], []⟩) ?_ ?_
        · refine .cv (VOk.mv (d := (.v (.int .i64 x5_1))) rfl rfl) rfl rfl ?_
          refine .cv (VOk.asg (d := (.v (.int .i64 x5_1))) rfl rfl) rfl rfl ?_
          exact .done (.rf rfl rfl)
        refine Ok.ret ?_
        obtain rfl := Option.some.inj H
        exact ⟨.inl rfl, ⟨_, (.cons (.tmp rfl) .nil), rfl⟩, trivial⟩

/-! watchbill/watchbilllaw16.Few: function 36 -/
def watchbilllaw16_Few (k : Nat) (a0 : List T_api_Entry) : Option Bool := ((watchbilllaw16_weigh k a0 5000).bind fun (t1 : Int) => some (decide (t1 ≤ 5000)))
theorem watchbilllaw16_Few.ok {k : Nat} {a0 : List T_api_Entry} {r : Bool} (H : watchbilllaw16_Few k a0 = some r) : Vx.Fn Try.prog 36 [(L 4 e_api_Entry a0)] [] (.v (.bool r)) [] := by
  unfold watchbilllaw16_Few at H
  refine Vx.Fn.of_okR Try.func36 rfl (Nat.le_of_ble_eq_true rfl) ?_
  refine Ok.seq ?_
  refine Ok.region (σ' := ⟨[(0, (L 4 e_api_Entry a0))], []⟩) ?_ ?_
  · refine .cv (VOk.asg (d := (.v (.bool false))) rfl rfl) rfl rfl ?_
    exact .done (.rf rfl rfl)
  refine Ok.seq ?_
  obtain ⟨t1, h2, H⟩ := bindE H
  refine Ok.region (σ' := ⟨[(2, (.v (.bool (decide (t1 ≤ 5000)))))], []⟩) ?_ ?_
  · refine .cv (VOk.mv (d := (L 4 e_api_Entry a0)) rfl rfl) rfl rfl ?_
    refine .cg (GOk.call rfl rfl cl62 rfl (watchbilllaw16_weigh.ok h2) rfl) rfl rfl ?_
    refine .cv (VOk.arith (op := .leq) (k := .i64) (a := t1) (b := 5000) rfl rfl rfl rfl) rfl rfl ?_
    refine .cv (VOk.asg (d := (.v (.bool (decide (t1 ≤ 5000))))) rfl rfl) rfl rfl ?_
    exact .done (.rf rfl rfl)
  refine Ok.ret ?_
  obtain rfl := Option.some.inj H
  exact ⟨.inl rfl, ⟨_, (.cons (.tmp rfl) .nil), rfl⟩, trivial⟩

/-! watchbill/watchbilllaw17.Few: function 17 -/
def watchbilllaw17_Few.l1 (k : Nat) (c0 : Int → Int → Option Bool) (a0 : List T_api_Service) (x4_2 : Int) : Nat → Str → List T_api_Entry → Bool → Str → List Str → Int → Int → Option Bool
  | 0, _, _, _, _, _, _, _ => none
  | m27 + 1, y5_0_15, y5_1_16, y5_2_17, y5_3_18, y5_4_19, x3_13, x6_14 => (if (decide (x6_14 < (y5_4_19.length : Int))) = true then (if (0 : Int) ≤ x6_14 ∧ x6_14 < (y5_4_19.length : Int) then watchbilllaw17_Few.l1 k c0 a0 x4_2 m27 y5_0_15 y5_1_16 y5_2_17 y5_3_18 y5_4_19 (IntKind.i64.wrap (x3_13 + (if 5000 < ((rd y5_4_19 x6_14).length : Int) then 5000 else ((rd y5_4_19 x6_14).length : Int)))) (IntKind.i64.wrap (x6_14 + 1)) else none) else (if (decide (x3_13 > 5000)) = true then some false else c0 x3_13 (IntKind.i64.wrap (x4_2 + 1))))
def watchbilllaw17_Few.l0 (k : Nat) (a0 : List T_api_Service) : Nat → Int → Int → Option Bool
  | 0, _, _ => none
  | m5 + 1, x3_1, x4_2 => (if (decide (x4_2 < (a0.length : Int))) = true then (if (0 : Int) ≤ x4_2 ∧ x4_2 < (a0.length : Int) then (((if ((decide (x4_2 ≥ 100)) == false) = true then watchbilllaw16_Few k ((rd a0 x4_2).List_) else some default)).bind fun (t8 : Bool) => (if (((decide (x4_2 ≥ 100)) || (!t8)) || (decide ((((rd a0 x4_2).Packages).length : Int) > 100))) = true then some false else watchbilllaw17_Few.l1 k (watchbilllaw17_Few.l0 k a0 m5) a0 x4_2 k ((rd a0 x4_2).URI) ((rd a0 x4_2).List_) ((rd a0 x4_2).Inline) ((rd a0 x4_2).Ref) ((rd a0 x4_2).Packages) (IntKind.i64.wrap ((IntKind.i64.wrap (x3_1 + (if 5000 < (((rd a0 x4_2).URI).length : Int) then 5000 else (((rd a0 x4_2).URI).length : Int)))) + (if 5000 < (((rd a0 x4_2).Ref).length : Int) then 5000 else (((rd a0 x4_2).Ref).length : Int)))) 0)) else none) else some true)
def watchbilllaw17_Few (k : Nat) (a0 : List T_api_Service) : Option Bool := watchbilllaw17_Few.l0 k a0 k 0 0
theorem watchbilllaw17_Few.ok {k : Nat} {a0 : List T_api_Service} {r : Bool} (H : watchbilllaw17_Few k a0 = some r) : Vx.Fn Try.prog 17 [(L 5 e_api_Service a0)] [] (.v (.bool r)) [] := by
  unfold watchbilllaw17_Few at H
  refine Vx.Fn.of_okR Try.func17 rfl (Nat.le_of_ble_eq_true rfl) ?_
  refine Ok.seq ?_
  refine Ok.region (σ' := ⟨[(0, (L 5 e_api_Service a0))], []⟩) ?_ ?_
  · refine .cv (VOk.asg (d := (.v (.bool false))) rfl rfl) rfl rfl ?_
    exact .done (.rf rfl rfl)
  refine Ok.seq ?_
  refine Ok.region (σ' := ⟨[(0, (L 5 e_api_Service a0)), (3, (.v (.int .i64 0)))], []⟩) ?_ ?_
  · refine .cv (VOk.asg (d := (.v (.int .i64 0))) rfl rfl) rfl rfl ?_
    exact .done (.rf rfl rfl)
  refine Ok.seq ?_
  refine Ok.seq ?_
  refine Ok.region (σ' := ⟨[(0, (L 5 e_api_Service a0)), (3, (.v (.int .i64 0))), (4, (.v (.int .i64 0)))], []⟩) ?_ ?_
  · refine .cv (VOk.asg (d := (.v (.int .i64 0))) rfl rfl) rfl rfl ?_
    exact .done (.rf rfl rfl)
  refine Ok.block ?_
  refine Ok.le (σ' := ⟨[(0, (L 5 e_api_Service a0)), (3, (.v (.int .i64 0))), (4, (.v (.int .i64 0)))], []⟩) (.rf rfl rfl) ?_
  refine Ok.loop (fun m5 σ => ∃ (x3_1 : Int) (x4_2 : Int), σ = ⟨[(0, (L 5 e_api_Service a0)), (3, (.v (.int .i64 x3_1))), (4, (.v (.int .i64 x4_2)))], []⟩ ∧ watchbilllaw17_Few.l0 k a0 m5 x3_1 x4_2 = some r) k ⟨0, 0, rfl, H⟩ ?_
  rintro m5 σ ⟨x3_1, x4_2, rfl, H⟩
  cases m5 with
  | zero => exact absurd H (by simp [watchbilllaw17_Few.l0])
  | succ m5 =>
    unfold watchbilllaw17_Few.l0 at H
    refine Ok.seq ?_
    refine Ok.seq ?_
    refine Ok.region (σ' := ⟨[(0, (L 5 e_api_Service a0)), (3, (.v (.int .i64 x3_1))), (4, (.v (.int .i64 x4_2))), (10, (.v (.bool (decide (x4_2 < (a0.length : Int))))))], []⟩) ?_ ?_
    · refine .cv (VOk.mv (d := (.v (.int .i64 x4_2))) rfl rfl) rfl rfl ?_
      refine .cv (VOk.mv (d := (L 5 e_api_Service a0)) rfl rfl) rfl rfl ?_
      refine .cv (VOk.lenL (e := e_api_Service) (xs := a0) rfl Try.underlying30 rfl) rfl rfl ?_
      refine .cv (VOk.arith (op := .lss) (k := .i64) (a := x4_2) (b := (a0.length : Int)) rfl rfl rfl rfl) rfl rfl ?_
      exact .done (.rf rfl rfl)
    refine Ok.test (b := (decide (x4_2 < (a0.length : Int)))) rfl (fun hb32 => ?_) (fun hb32 => ?_)
    · replace H := ifT H hb32
      refine Ok.skip ?_
      refine Ok.seq ?_
      refine Ok.block ?_
      refine Ok.seq ?_
      obtain ⟨c6, H⟩ := assertE H
      refine Ok.region (σ' := ⟨[(0, (L 5 e_api_Service a0)), (3, (.v (.int .i64 x3_1))), (4, (.v (.int .i64 x4_2))), (5, (.bref 5 0))], [(5, (.box .ex (c_api_Service (rd a0 x4_2))))]⟩) ?_ ?_
      · refine .cv (VOk.mv (d := (L 5 e_api_Service a0)) rfl rfl) rfl rfl ?_
        refine .cv (VOk.mv (d := (.v (.int .i64 x4_2))) rfl rfl) rfl rfl ?_
        refine .cv (VOk.indexL (sz := 5) (e := e_api_Service) (xs := a0) (i := x4_2) rfl Try.underlying30 sz39 rfl rfl c6) rfl rfl ?_
        refine .cv (VOk.to (d' := (.agg (e_api_Service (rd a0 x4_2)))) (.loadFpAgg rfl Try.underlying39 rfl sz39 rfl rfl) rfl) rfl rfl ?_
        refine OpsOk.cons rfl (OpOk.alloc 5 [none, some 4, none, none, some 1] rfl zo39 rfl rfl) ?_
        refine OpsOk.cons rfl (OpOk.to (σ2 := St.put ⟨_, (5, (.box .ex (c_api_Service (rd a0 x4_2)))) :: _⟩ _ .junk) (.storeB rfl sz39 rfl rfl rfl rfl rfl rfl) rfl) ?_
        exact .done (.rf rfl rfl)
      refine Ok.seq ?_
      refine Ok.seq ?_
      obtain ⟨t8, h9, H⟩ := bindE H
      refine Ok.region (σ' := ⟨[(0, (L 5 e_api_Service a0)), (3, (.v (.int .i64 x3_1))), (4, (.v (.int .i64 x4_2))), (5, (.bref 5 0)), (30, (.v (.bool (((decide (x4_2 ≥ 100)) || (!t8)) || (decide ((((rd a0 x4_2).Packages).length : Int) > 100))))))], [(5, (.box .ex (c_api_Service (rd a0 x4_2))))]⟩) ?_ ?_
      · refine .cv (VOk.mv (d := (.v (.int .i64 x4_2))) rfl rfl) rfl rfl ?_
        refine .cv (VOk.arith (op := .geq) (k := .i64) (a := x4_2) (b := 100) rfl rfl rfl rfl) rfl rfl ?_
        refine .cv (VOk.mv (d := (.v (.bool (decide (x4_2 ≥ 100))))) rfl rfl) rfl rfl ?_
        refine OpsOk.consI rfl rfl rfl (.one rfl) rfl (fun hw7 => (VOk.g (VOk.to (VOk.fieldB rfl Try.underlying39 rfl sz36 rfl rfl) rfl))) ?_
        refine OpsOk.consI rfl rfl rfl (.one rfl) rfl (fun hw7 => (GOk.fr (fr' := [(20, (.bref 5 1))]) ⟨DLe.of_eq (cT hw7).symm, trivial⟩ (VOk.g (VOk.loadB (d := (L 4 e_api_Entry ((rd a0 x4_2).List_))) rfl Try.underlying36 rfl rfl rfl rfl)))) ?_
        refine OpsOk.consI rfl rfl rfl (.one rfl) rfl (fun hw7 => (GOk.fr (fr' := [(21, (L 4 e_api_Entry ((rd a0 x4_2).List_)))]) ⟨DLe.of_eq (cT hw7).symm, trivial⟩ (GOk.call rfl rfl cl36 rfl (watchbilllaw16_Few.ok (ifT h9 hw7)) rfl))) ?_
        refine OpsOk.consI rfl rfl rfl (.one rfl) rfl (fun hw7 => (GOk.fr (fr' := [(22, (.v (.bool t8)))]) ⟨DLe.of_eq (cT hw7).symm, trivial⟩ (VOk.g (VOk.not (b := t8) rfl rfl)))) ?_
        refine .cv (VOk.to (VOk.pickI (b := (decide (x4_2 ≥ 100))) (p := true) (q := (!t8)) rfl rfl (fun hp10 => rfl) (fun hp10 => (cT (f_beq hp10)))) (pickOr (decide (x4_2 ≥ 100)) (!t8))) rfl rfl ?_
        refine .cv (VOk.mv (d := (.v (.bool ((decide (x4_2 ≥ 100)) || (!t8))))) rfl rfl) rfl rfl ?_
        refine OpsOk.consI rfl rfl rfl (.one rfl) rfl (fun hw11 => (VOk.g (VOk.to (VOk.fieldB rfl Try.underlying39 rfl sz37 rfl rfl) rfl))) ?_
        refine OpsOk.consI rfl rfl rfl (.one rfl) rfl (fun hw11 => (GOk.fr (fr' := [(26, (.bref 5 4))]) ⟨DLe.of_eq (cT hw11).symm, trivial⟩ (VOk.g (VOk.loadB (d := (L 1 eS ((rd a0 x4_2).Packages))) rfl Try.underlying37 rfl rfl rfl rfl)))) ?_
        refine OpsOk.consI rfl rfl rfl (.one rfl) rfl (fun hw11 => (GOk.fr (fr' := [(27, (L 1 eS ((rd a0 x4_2).Packages)))]) ⟨DLe.of_eq (cT hw11).symm, trivial⟩ (VOk.g (VOk.lenL (e := eS) (xs := (rd a0 x4_2).Packages) rfl Try.underlying37 rfl)))) ?_
        refine OpsOk.consI rfl rfl rfl (.one rfl) rfl (fun hw11 => (GOk.fr (fr' := [(28, (.v (.int .i64 (((rd a0 x4_2).Packages).length : Int))))]) ⟨DLe.of_eq (cT hw11).symm, trivial⟩ (VOk.g (VOk.arith (op := .gtr) (k := .i64) (a := (((rd a0 x4_2).Packages).length : Int)) (b := 100) rfl rfl rfl rfl)))) ?_
        refine .cv (VOk.to (VOk.pickI (b := ((decide (x4_2 ≥ 100)) || (!t8))) (p := true) (q := (decide ((((rd a0 x4_2).Packages).length : Int) > 100))) rfl rfl (fun hp12 => rfl) (fun hp12 => (cT (f_beq hp12)))) (pickOr ((decide (x4_2 ≥ 100)) || (!t8)) (decide ((((rd a0 x4_2).Packages).length : Int) > 100)))) rfl rfl ?_
        exact .done (.rf rfl rfl)
      refine Ok.test (b := (((decide (x4_2 ≥ 100)) || (!t8)) || (decide ((((rd a0 x4_2).Packages).length : Int) > 100)))) rfl (fun hb31 => ?_) (fun hb31 => ?_)
      · replace H := ifT H hb31
        refine Ok.seq ?_
        refine Ok.region (σ' := ⟨[(2, (.v (.bool false)))], []⟩) ?_ ?_
        · refine .cv (VOk.asg (d := (.v (.bool false))) rfl rfl) rfl rfl ?_
          exact .done (.rf rfl rfl)
        refine Ok.ret ?_
        obtain rfl := Option.some.inj H
        exact ⟨.inl rfl, ⟨_, (.cons (.tmp rfl) .nil), rfl⟩, trivial⟩
      · replace H := ifF H hb31
        refine Ok.skip ?_
        refine Ok.seq ?_
        refine Ok.region (σ' := ⟨[(0, (L 5 e_api_Service a0)), (3, (.v (.int .i64 (IntKind.i64.wrap ((IntKind.i64.wrap (x3_1 + (if 5000 < (((rd a0 x4_2).URI).length : Int) then 5000 else (((rd a0 x4_2).URI).length : Int)))) + (if 5000 < (((rd a0 x4_2).Ref).length : Int) then 5000 else (((rd a0 x4_2).Ref).length : Int))))))), (4, (.v (.int .i64 x4_2))), (5, (.bref 5 0))], [(5, (.box .ex (c_api_Service (rd a0 x4_2))))]⟩) ?_ ?_
        · refine .cv (VOk.mv (d := (.v (.int .i64 x3_1))) rfl rfl) rfl rfl ?_
          refine .cv (VOk.to (VOk.fieldB rfl Try.underlying39 rfl sz9 rfl rfl) rfl) rfl rfl ?_
          refine .cv (VOk.loadB (d := (S ((rd a0 x4_2).URI))) rfl Try.underlying9 rfl rfl rfl rfl) rfl rfl ?_
          refine .cv (VOk.lenStr (s := (rd a0 x4_2).URI) rfl Try.underlying9 rfl) rfl rfl ?_
          refine .cv (VOk.min2 (a := (((rd a0 x4_2).URI).length : Int)) (b := 5000) rfl rfl rfl) rfl rfl ?_
          refine .cv (VOk.arith (op := .add) (k := .i64) (a := x3_1) (b := (if 5000 < (((rd a0 x4_2).URI).length : Int) then 5000 else (((rd a0 x4_2).URI).length : Int))) rfl rfl rfl rfl) rfl rfl ?_
          refine .cv (VOk.to (VOk.fieldB rfl Try.underlying39 rfl sz9 rfl rfl) rfl) rfl rfl ?_
          refine .cv (VOk.loadB (d := (S ((rd a0 x4_2).Ref))) rfl Try.underlying9 rfl rfl rfl rfl) rfl rfl ?_
          refine .cv (VOk.lenStr (s := (rd a0 x4_2).Ref) rfl Try.underlying9 rfl) rfl rfl ?_
          refine .cv (VOk.min2 (a := (((rd a0 x4_2).Ref).length : Int)) (b := 5000) rfl rfl rfl) rfl rfl ?_
          refine .cv (VOk.arith (op := .add) (k := .i64) (a := (IntKind.i64.wrap (x3_1 + (if 5000 < (((rd a0 x4_2).URI).length : Int) then 5000 else (((rd a0 x4_2).URI).length : Int))))) (b := (if 5000 < (((rd a0 x4_2).Ref).length : Int) then 5000 else (((rd a0 x4_2).Ref).length : Int))) rfl rfl rfl rfl) rfl rfl ?_
          refine .cv (VOk.asg (d := (.v (.int .i64 (IntKind.i64.wrap ((IntKind.i64.wrap (x3_1 + (if 5000 < (((rd a0 x4_2).URI).length : Int) then 5000 else (((rd a0 x4_2).URI).length : Int)))) + (if 5000 < (((rd a0 x4_2).Ref).length : Int) then 5000 else (((rd a0 x4_2).Ref).length : Int))))))) rfl rfl) rfl rfl ?_
          exact .done (.rf rfl rfl)
        refine Ok.seq ?_
        refine Ok.seq ?_
        refine Ok.region (σ' := ⟨[(0, (L 5 e_api_Service a0)), (3, (.v (.int .i64 (IntKind.i64.wrap ((IntKind.i64.wrap (x3_1 + (if 5000 < (((rd a0 x4_2).URI).length : Int) then 5000 else (((rd a0 x4_2).URI).length : Int)))) + (if 5000 < (((rd a0 x4_2).Ref).length : Int) then 5000 else (((rd a0 x4_2).Ref).length : Int))))))), (4, (.v (.int .i64 x4_2))), (5, (.bref 5 0)), (6, (.v (.int .i64 0)))], [(5, (.box .ex (c_api_Service (rd a0 x4_2))))]⟩) ?_ ?_
        · refine .cv (VOk.asg (d := (.v (.int .i64 0))) rfl rfl) rfl rfl ?_
          exact .done (.rf rfl rfl)
        refine Ok.block ?_
        refine Ok.le (σ' := ⟨[(0, (L 5 e_api_Service a0)), (3, (.v (.int .i64 (IntKind.i64.wrap ((IntKind.i64.wrap (x3_1 + (if 5000 < (((rd a0 x4_2).URI).length : Int) then 5000 else (((rd a0 x4_2).URI).length : Int)))) + (if 5000 < (((rd a0 x4_2).Ref).length : Int) then 5000 else (((rd a0 x4_2).Ref).length : Int))))))), (4, (.v (.int .i64 x4_2))), (5, (.bref 5 0)), (6, (.v (.int .i64 0)))], [(5, (.box .ex (c_api_Service (rd a0 x4_2))))]⟩) (.rf rfl rfl) ?_
        refine Ok.loop (fun m27 σ => ∃ (y5_0_15 : Str) (y5_1_16 : List T_api_Entry) (y5_2_17 : Bool) (y5_3_18 : Str) (y5_4_19 : List Str) (x3_13 : Int) (x6_14 : Int), σ = ⟨[(0, (L 5 e_api_Service a0)), (3, (.v (.int .i64 x3_13))), (4, (.v (.int .i64 x4_2))), (5, (.bref 5 0)), (6, (.v (.int .i64 x6_14)))], [(5, (.box .ex [(S y5_0_15), (L 4 e_api_Entry y5_1_16), (.v (.bool y5_2_17)), (S y5_3_18), (L 1 eS y5_4_19)]))]⟩ ∧ watchbilllaw17_Few.l1 k (watchbilllaw17_Few.l0 k a0 m5) a0 x4_2 m27 y5_0_15 y5_1_16 y5_2_17 y5_3_18 y5_4_19 x3_13 x6_14 = some r) k ⟨((rd a0 x4_2).URI), ((rd a0 x4_2).List_), ((rd a0 x4_2).Inline), ((rd a0 x4_2).Ref), ((rd a0 x4_2).Packages), (IntKind.i64.wrap ((IntKind.i64.wrap (x3_1 + (if 5000 < (((rd a0 x4_2).URI).length : Int) then 5000 else (((rd a0 x4_2).URI).length : Int)))) + (if 5000 < (((rd a0 x4_2).Ref).length : Int) then 5000 else (((rd a0 x4_2).Ref).length : Int)))), 0, rfl, H⟩ ?_
        rintro m27 σ ⟨y5_0_15, y5_1_16, y5_2_17, y5_3_18, y5_4_19, x3_13, x6_14, rfl, H⟩
        cases m27 with
        | zero => exact absurd H (by simp [watchbilllaw17_Few.l1])
        | succ m27 =>
          unfold watchbilllaw17_Few.l1 at H
          refine Ok.seq ?_
          refine Ok.seq ?_
          refine Ok.region (σ' := ⟨[(0, (L 5 e_api_Service a0)), (3, (.v (.int .i64 x3_13))), (4, (.v (.int .i64 x4_2))), (5, (.bref 5 0)), (6, (.v (.int .i64 x6_14))), (46, (.v (.bool (decide (x6_14 < (y5_4_19.length : Int))))))], [(5, (.box .ex [(S y5_0_15), (L 4 e_api_Entry y5_1_16), (.v (.bool y5_2_17)), (S y5_3_18), (L 1 eS y5_4_19)]))]⟩) ?_ ?_
          · refine .cv (VOk.mv (d := (.v (.int .i64 x6_14))) rfl rfl) rfl rfl ?_
            refine .cv (VOk.to (VOk.fieldB rfl Try.underlying39 rfl sz37 rfl rfl) rfl) rfl rfl ?_
            refine .cv (VOk.loadB (d := (L 1 eS y5_4_19)) rfl Try.underlying37 rfl rfl rfl rfl) rfl rfl ?_
            refine .cv (VOk.lenL (e := eS) (xs := y5_4_19) rfl Try.underlying37 rfl) rfl rfl ?_
            refine .cv (VOk.arith (op := .lss) (k := .i64) (a := x6_14) (b := (y5_4_19.length : Int)) rfl rfl rfl rfl) rfl rfl ?_
            exact .done (.rf rfl rfl)
          refine Ok.test (b := (decide (x6_14 < (y5_4_19.length : Int)))) rfl (fun hb30 => ?_) (fun hb30 => ?_)
          · replace H := ifT H hb30
            refine Ok.skip ?_
            refine Ok.seq ?_
            refine Ok.block ?_
            obtain ⟨c28, H⟩ := assertE H
            refine Ok.region (σ' := ⟨[(0, (L 5 e_api_Service a0)), (3, (.v (.int .i64 (IntKind.i64.wrap (x3_13 + (if 5000 < ((rd y5_4_19 x6_14).length : Int) then 5000 else ((rd y5_4_19 x6_14).length : Int))))))), (4, (.v (.int .i64 x4_2))), (5, (.bref 5 0)), (6, (.v (.int .i64 x6_14)))], [(5, (.box .ex [(S y5_0_15), (L 4 e_api_Entry y5_1_16), (.v (.bool y5_2_17)), (S y5_3_18), (L 1 eS y5_4_19)]))]⟩) ?_ ?_
            · refine .cv (VOk.mv (d := (.v (.int .i64 x3_13))) rfl rfl) rfl rfl ?_
              refine .cv (VOk.to (VOk.fieldB rfl Try.underlying39 rfl sz37 rfl rfl) rfl) rfl rfl ?_
              refine .cv (VOk.loadB (d := (L 1 eS y5_4_19)) rfl Try.underlying37 rfl rfl rfl rfl) rfl rfl ?_
              refine .cv (VOk.mv (d := (.v (.int .i64 x6_14))) rfl rfl) rfl rfl ?_
              refine .cv (VOk.indexL (sz := 1) (e := eS) (xs := y5_4_19) (i := x6_14) rfl Try.underlying37 sz9 rfl rfl c28) rfl rfl ?_
              refine .cv (VOk.loadFp (d := (S (rd y5_4_19 x6_14))) rfl Try.underlying9 rfl rfl rfl) rfl rfl ?_
              refine .cv (VOk.lenStr (s := (rd y5_4_19 x6_14)) rfl Try.underlying9 rfl) rfl rfl ?_
              refine .cv (VOk.min2 (a := ((rd y5_4_19 x6_14).length : Int)) (b := 5000) rfl rfl rfl) rfl rfl ?_
              refine .cv (VOk.arith (op := .add) (k := .i64) (a := x3_13) (b := (if 5000 < ((rd y5_4_19 x6_14).length : Int) then 5000 else ((rd y5_4_19 x6_14).length : Int))) rfl rfl rfl rfl) rfl rfl ?_
              refine .cv (VOk.asg (d := (.v (.int .i64 (IntKind.i64.wrap (x3_13 + (if 5000 < ((rd y5_4_19 x6_14).length : Int) then 5000 else ((rd y5_4_19 x6_14).length : Int))))))) rfl rfl) rfl rfl ?_
              exact .done (.rf rfl rfl)
            refine Ok.region (σ' := ⟨[(0, (L 5 e_api_Service a0)), (3, (.v (.int .i64 (IntKind.i64.wrap (x3_13 + (if 5000 < ((rd y5_4_19 x6_14).length : Int) then 5000 else ((rd y5_4_19 x6_14).length : Int))))))), (4, (.v (.int .i64 x4_2))), (5, (.bref 5 0)), (6, (.v (.int .i64 (IntKind.i64.wrap (x6_14 + 1)))))], [(5, (.box .ex [(S y5_0_15), (L 4 e_api_Entry y5_1_16), (.v (.bool y5_2_17)), (S y5_3_18), (L 1 eS y5_4_19)]))]⟩) ?_ ?_
            · refine .cv (VOk.mv (d := (.v (.int .i64 x6_14))) rfl rfl) rfl rfl ?_
              refine .cv (VOk.arith (op := .add) (k := .i64) (a := x6_14) (b := 1) rfl rfl rfl rfl) rfl rfl ?_
              refine .cv (VOk.asg (d := (.v (.int .i64 (IntKind.i64.wrap (x6_14 + 1))))) rfl rfl) rfl rfl ?_
              exact .done (.rf rfl rfl)
            exact ⟨m27, Nat.lt_succ_self m27, y5_0_15, y5_1_16, y5_2_17, y5_3_18, y5_4_19, (IntKind.i64.wrap (x3_13 + (if 5000 < ((rd y5_4_19 x6_14).length : Int) then 5000 else ((rd y5_4_19 x6_14).length : Int)))), (IntKind.i64.wrap (x6_14 + 1)), rfl, H⟩
          · replace H := ifF H hb30
            refine Ok.exit ?_
            refine Ok.seq ?_
            refine Ok.region (σ' := ⟨[(0, (L 5 e_api_Service a0)), (3, (.v (.int .i64 x3_13))), (4, (.v (.int .i64 x4_2))), (59, (.v (.bool (decide (x3_13 > 5000)))))], []⟩) ?_ ?_
            · refine .cv (VOk.mv (d := (.v (.int .i64 x3_13))) rfl rfl) rfl rfl ?_
              refine .cv (VOk.arith (op := .gtr) (k := .i64) (a := x3_13) (b := 5000) rfl rfl rfl rfl) rfl rfl ?_
              exact .done (.rf rfl rfl)
            refine Ok.test (b := (decide (x3_13 > 5000))) rfl (fun hb29 => ?_) (fun hb29 => ?_)
            · replace H := ifT H hb29
              refine Ok.seq ?_
              refine Ok.region (σ' := ⟨[(2, (.v (.bool false)))], []⟩) ?_ ?_
              · refine .cv (VOk.asg (d := (.v (.bool false))) rfl rfl) rfl rfl ?_
                exact .done (.rf rfl rfl)
              refine Ok.ret ?_
              obtain rfl := Option.some.inj H
              exact ⟨.inl rfl, ⟨_, (.cons (.tmp rfl) .nil), rfl⟩, trivial⟩
            · replace H := ifF H hb29
              refine Ok.skip ?_
              refine Ok.region (σ' := ⟨[(0, (L 5 e_api_Service a0)), (3, (.v (.int .i64 x3_13))), (4, (.v (.int .i64 (IntKind.i64.wrap (x4_2 + 1)))))], []⟩) ?_ ?_
              · refine .cv (VOk.mv (d := (.v (.int .i64 x4_2))) rfl rfl) rfl rfl ?_
                refine .cv (VOk.arith (op := .add) (k := .i64) (a := x4_2) (b := 1) rfl rfl rfl rfl) rfl rfl ?_
                refine .cv (VOk.asg (d := (.v (.int .i64 (IntKind.i64.wrap (x4_2 + 1))))) rfl rfl) rfl rfl ?_
                exact .done (.rf rfl rfl)
              exact ⟨m5, Nat.lt_succ_self m5, x3_13, (IntKind.i64.wrap (x4_2 + 1)), rfl, H⟩
    · replace H := ifF H hb32
      refine Ok.exit ?_
      refine Ok.seq ?_
      refine Ok.region (σ' := ⟨[(2, (.v (.bool true)))], []⟩) ?_ ?_
      · refine .cv (VOk.asg (d := (.v (.bool true))) rfl rfl) rfl rfl ?_
        exact .done (.rf rfl rfl)
      refine Ok.ret ?_
      obtain rfl := Option.some.inj H
      exact ⟨.inl rfl, ⟨_, (.cons (.tmp rfl) .nil), rfl⟩, trivial⟩

/-! watchbill/watchbillref01.Blank: function 73 -/
def watchbillref01_Blank (a0 : Int) : Option Bool := some ((((a0 == 9) || (a0 == 10)) || (a0 == 13)) || (a0 == 32))
theorem watchbillref01_Blank.ok {a0 : Int} {r : Bool} (H : watchbillref01_Blank a0 = some r) : Vx.Fn Try.prog 73 [(.v (.int .u8 a0))] [] (.v (.bool r)) [] := by
  unfold watchbillref01_Blank at H
  refine Vx.Fn.of_okR Try.func73 rfl (Nat.le_of_ble_eq_true rfl) ?_
  refine Ok.seq ?_
  refine Ok.region (σ' := ⟨[(0, (.v (.int .u8 a0)))], []⟩) ?_ ?_
  · refine .cv (VOk.asg (d := (.v (.bool false))) rfl rfl) rfl rfl ?_
    exact .done (.rf rfl rfl)
  refine Ok.seq ?_
  refine Ok.region (σ' := ⟨[(2, (.v (.bool ((((a0 == 9) || (a0 == 10)) || (a0 == 13)) || (a0 == 32)))))], []⟩) ?_ ?_
  · refine .cv (VOk.mv (d := (.v (.int .u8 a0))) rfl rfl) rfl rfl ?_
    refine .cv (VOk.arith (op := .eql) (k := .u8) (a := a0) (b := 9) rfl rfl rfl rfl) rfl rfl ?_
    refine .cv (VOk.mv (d := (.v (.bool (a0 == 9)))) rfl rfl) rfl rfl ?_
    refine OpsOk.consI rfl rfl rfl (.one rfl) rfl (fun hw1 => (VOk.g (VOk.mv (d := (.v (.int .u8 a0))) rfl rfl))) ?_
    refine OpsOk.consI rfl rfl rfl (.one rfl) rfl (fun hw1 => (GOk.fr (fr' := [(6, (.v (.int .u8 a0)))]) ⟨DLe.of_eq (cT hw1).symm, trivial⟩ (VOk.g (VOk.arith (op := .eql) (k := .u8) (a := a0) (b := 10) rfl rfl rfl rfl)))) ?_
    refine .cv (VOk.to (VOk.pickI (b := (a0 == 9)) (p := true) (q := (a0 == 10)) rfl rfl (fun hp2 => rfl) (fun hp2 => (cT (f_beq hp2)))) (pickOr (a0 == 9) (a0 == 10))) rfl rfl ?_
    refine .cv (VOk.mv (d := (.v (.bool ((a0 == 9) || (a0 == 10))))) rfl rfl) rfl rfl ?_
    refine OpsOk.consI rfl rfl rfl (.one rfl) rfl (fun hw3 => (VOk.g (VOk.mv (d := (.v (.int .u8 a0))) rfl rfl))) ?_
    refine OpsOk.consI rfl rfl rfl (.one rfl) rfl (fun hw3 => (GOk.fr (fr' := [(10, (.v (.int .u8 a0)))]) ⟨DLe.of_eq (cT hw3).symm, trivial⟩ (VOk.g (VOk.arith (op := .eql) (k := .u8) (a := a0) (b := 13) rfl rfl rfl rfl)))) ?_
    refine .cv (VOk.to (VOk.pickI (b := ((a0 == 9) || (a0 == 10))) (p := true) (q := (a0 == 13)) rfl rfl (fun hp4 => rfl) (fun hp4 => (cT (f_beq hp4)))) (pickOr ((a0 == 9) || (a0 == 10)) (a0 == 13))) rfl rfl ?_
    refine .cv (VOk.mv (d := (.v (.bool (((a0 == 9) || (a0 == 10)) || (a0 == 13))))) rfl rfl) rfl rfl ?_
    refine OpsOk.consI rfl rfl rfl (.one rfl) rfl (fun hw5 => (VOk.g (VOk.mv (d := (.v (.int .u8 a0))) rfl rfl))) ?_
    refine OpsOk.consI rfl rfl rfl (.one rfl) rfl (fun hw5 => (GOk.fr (fr' := [(14, (.v (.int .u8 a0)))]) ⟨DLe.of_eq (cT hw5).symm, trivial⟩ (VOk.g (VOk.arith (op := .eql) (k := .u8) (a := a0) (b := 32) rfl rfl rfl rfl)))) ?_
    refine .cv (VOk.to (VOk.pickI (b := (((a0 == 9) || (a0 == 10)) || (a0 == 13))) (p := true) (q := (a0 == 32)) rfl rfl (fun hp6 => rfl) (fun hp6 => (cT (f_beq hp6)))) (pickOr (((a0 == 9) || (a0 == 10)) || (a0 == 13)) (a0 == 32))) rfl rfl ?_
    refine .cv (VOk.asg (d := (.v (.bool ((((a0 == 9) || (a0 == 10)) || (a0 == 13)) || (a0 == 32))))) rfl rfl) rfl rfl ?_
    exact .done (.rf rfl rfl)
  refine Ok.ret ?_
  obtain rfl := Option.some.inj H
  exact ⟨.inl rfl, ⟨_, (.cons (.tmp rfl) .nil), rfl⟩, trivial⟩

/-! watchbill/watchbillref01.Trim: function 53 -/
def watchbillref01_Trim.l1 (k : Nat) (a0 : Str) (x3_1 : Int) : Nat → Int → Option Str
  | 0, _ => none
  | m11 + 1, x4_9 => (if (((decide (x4_9 > x3_1)) == true) = true → (0 : Int) ≤ (IntKind.i64.wrap (x4_9 - 1)) ∧ (IntKind.i64.wrap (x4_9 - 1)) < (a0.length : Int)) then (((if ((decide (x4_9 > x3_1)) == true) = true then watchbillref01_Blank (bt a0 (IntKind.i64.wrap (x4_9 - 1))) else some default)).bind fun (t14 : Bool) => (if ((decide (x4_9 > x3_1)) && t14) = true then watchbillref01_Trim.l1 k a0 x3_1 m11 (IntKind.i64.wrap (x4_9 - 1)) else (if (0 : Int) ≤ x3_1 ∧ x3_1 ≤ x4_9 ∧ x4_9 ≤ (a0.length : Int) then some (sl a0 x3_1 x4_9) else none))) else none)
def watchbillref01_Trim.l0 (k : Nat) (a0 : Str) : Nat → Int → Option Str
  | 0, _ => none
  | m3 + 1, x3_1 => (if (((decide (x3_1 < (a0.length : Int))) == true) = true → (0 : Int) ≤ x3_1 ∧ x3_1 < (a0.length : Int)) then (((if ((decide (x3_1 < (a0.length : Int))) == true) = true then watchbillref01_Blank (bt a0 x3_1) else some default)).bind fun (t6 : Bool) => (if ((decide (x3_1 < (a0.length : Int))) && t6) = true then watchbillref01_Trim.l0 k a0 m3 (IntKind.i64.wrap (x3_1 + 1)) else watchbillref01_Trim.l1 k a0 x3_1 k (a0.length : Int))) else none)
def watchbillref01_Trim (k : Nat) (a0 : Str) : Option Str := watchbillref01_Trim.l0 k a0 k 0
theorem watchbillref01_Trim.ok {k : Nat} {a0 : Str} {r : Str} (H : watchbillref01_Trim k a0 = some r) : Vx.Fn Try.prog 53 [(S a0)] [] (S r) [] := by
  unfold watchbillref01_Trim at H
  refine Vx.Fn.of_okR Try.func53 rfl (Nat.le_of_ble_eq_true rfl) ?_
  refine Ok.seq ?_
  refine Ok.region (σ' := ⟨[(0, (S a0))], []⟩) ?_ ?_
  · refine .cv (VOk.asg (d := (S ([] : Str))) rfl rfl) rfl rfl ?_
    exact .done (.rf rfl rfl)
  refine Ok.seq ?_
  refine Ok.region (σ' := ⟨[(0, (S a0)), (3, (.v (.int .i64 0)))], []⟩) ?_ ?_
  · refine .cv (VOk.asg (d := (.v (.int .i64 0))) rfl rfl) rfl rfl ?_
    exact .done (.rf rfl rfl)
  refine Ok.seq ?_
  refine Ok.region (σ' := ⟨[(0, (S a0)), (3, (.v (.int .i64 0))), (4, (.v (.int .i64 (a0.length : Int))))], []⟩) ?_ ?_
  · refine .cv (VOk.mv (d := (S a0)) rfl rfl) rfl rfl ?_
    refine .cv (VOk.lenStr (s := a0) rfl Try.underlying9 rfl) rfl rfl ?_
    refine .cv (VOk.asg (d := (.v (.int .i64 (a0.length : Int)))) rfl rfl) rfl rfl ?_
    exact .done (.rf rfl rfl)
  refine Ok.seq ?_
  refine Ok.block ?_
  refine Ok.le (σ' := ⟨[(0, (S a0)), (3, (.v (.int .i64 0))), (4, (.v (.int .i64 (a0.length : Int))))], []⟩) (.rf rfl rfl) ?_
  refine Ok.loop (fun m3 σ => ∃ (x3_1 : Int), σ = ⟨[(0, (S a0)), (3, (.v (.int .i64 x3_1))), (4, (.v (.int .i64 (a0.length : Int))))], []⟩ ∧ watchbillref01_Trim.l0 k a0 m3 x3_1 = some r) k ⟨0, rfl, H⟩ ?_
  rintro m3 σ ⟨x3_1, rfl, H⟩
  cases m3 with
  | zero => exact absurd H (by simp [watchbillref01_Trim.l0])
  | succ m3 =>
    unfold watchbillref01_Trim.l0 at H
    refine Ok.seq ?_
    refine Ok.seq ?_
    obtain ⟨c5, H⟩ := assertE H
    obtain ⟨t6, h7, H⟩ := bindE H
    refine Ok.region (σ' := ⟨[(0, (S a0)), (3, (.v (.int .i64 x3_1))), (4, (.v (.int .i64 (a0.length : Int)))), (15, (.v (.bool ((decide (x3_1 < (a0.length : Int))) && t6))))], []⟩) ?_ ?_
    · refine .cv (VOk.mv (d := (.v (.int .i64 x3_1))) rfl rfl) rfl rfl ?_
      refine .cv (VOk.mv (d := (.v (.int .i64 (a0.length : Int)))) rfl rfl) rfl rfl ?_
      refine .cv (VOk.arith (op := .lss) (k := .i64) (a := x3_1) (b := (a0.length : Int)) rfl rfl rfl rfl) rfl rfl ?_
      refine .cv (VOk.mv (d := (.v (.bool (decide (x3_1 < (a0.length : Int)))))) rfl rfl) rfl rfl ?_
      refine OpsOk.consI rfl rfl rfl (.one rfl) rfl (fun hw4 => (VOk.g (VOk.mv (d := (S a0)) rfl rfl))) ?_
      refine OpsOk.consI rfl rfl rfl (.one rfl) rfl (fun hw4 => (VOk.g (VOk.mv (d := (.v (.int .i64 x3_1))) rfl rfl))) ?_
      refine OpsOk.consI rfl rfl rfl (.one rfl) rfl (fun hw4 => (GOk.fr (fr' := [(11, (S a0)), (12, (.v (.int .i64 x3_1)))]) ⟨DLe.of_eq (cT hw4).symm, DLe.of_eq (cT hw4).symm, trivial⟩ (VOk.g (VOk.indexStr (s := a0) (i := x3_1) rfl Try.underlying9 rfl rfl (c5 hw4))))) ?_
      refine OpsOk.consI rfl rfl rfl (.one rfl) rfl (fun hw4 => (GOk.fr (fr' := [(13, (.v (.int .u8 (bt a0 x3_1))))]) ⟨DLe.of_eq (cT hw4).symm, trivial⟩ (GOk.call rfl rfl cl73 rfl (watchbillref01_Blank.ok (ifT h7 hw4)) rfl))) ?_
      refine .cv (VOk.to (VOk.pickI (b := (decide (x3_1 < (a0.length : Int)))) (p := t6) (q := false) rfl rfl (fun hp8 => (cT (t_beq hp8))) (fun hp8 => rfl)) (pickAnd (decide (x3_1 < (a0.length : Int))) t6)) rfl rfl ?_
      exact .done (.rf rfl rfl)
    refine Ok.test (b := ((decide (x3_1 < (a0.length : Int))) && t6)) rfl (fun hb19 => ?_) (fun hb19 => ?_)
    · replace H := ifT H hb19
      refine Ok.skip ?_
      refine Ok.block ?_
      refine Ok.region (σ' := ⟨[(0, (S a0)), (3, (.v (.int .i64 (IntKind.i64.wrap (x3_1 + 1))))), (4, (.v (.int .i64 (a0.length : Int))))], []⟩) ?_ ?_
      · refine .cv (VOk.mv (d := (.v (.int .i64 x3_1))) rfl rfl) rfl rfl ?_
        refine .cv (VOk.arith (op := .add) (k := .i64) (a := x3_1) (b := 1) rfl rfl rfl rfl) rfl rfl ?_
        refine .cv (VOk.asg (d := (.v (.int .i64 (IntKind.i64.wrap (x3_1 + 1))))) rfl rfl) rfl rfl ?_
        exact .done (.rf rfl rfl)
      exact ⟨m3, Nat.lt_succ_self m3, (IntKind.i64.wrap (x3_1 + 1)), rfl, H⟩
    · replace H := ifF H hb19
      refine Ok.exit ?_
      refine Ok.seq ?_
      refine Ok.block ?_
      refine Ok.le (σ' := ⟨[(0, (S a0)), (3, (.v (.int .i64 x3_1))), (4, (.v (.int .i64 (a0.length : Int))))], []⟩) (.rf rfl rfl) ?_
      refine Ok.loop (fun m11 σ => ∃ (x4_9 : Int), σ = ⟨[(0, (S a0)), (3, (.v (.int .i64 x3_1))), (4, (.v (.int .i64 x4_9)))], []⟩ ∧ watchbillref01_Trim.l1 k a0 x3_1 m11 x4_9 = some r) k ⟨(a0.length : Int), rfl, H⟩ ?_
      rintro m11 σ ⟨x4_9, rfl, H⟩
      cases m11 with
      | zero => exact absurd H (by simp [watchbillref01_Trim.l1])
      | succ m11 =>
        unfold watchbillref01_Trim.l1 at H
        refine Ok.seq ?_
        refine Ok.seq ?_
        obtain ⟨c13, H⟩ := assertE H
        obtain ⟨t14, h15, H⟩ := bindE H
        refine Ok.region (σ' := ⟨[(0, (S a0)), (3, (.v (.int .i64 x3_1))), (4, (.v (.int .i64 x4_9))), (27, (.v (.bool ((decide (x4_9 > x3_1)) && t14))))], []⟩) ?_ ?_
        · refine .cv (VOk.mv (d := (.v (.int .i64 x4_9))) rfl rfl) rfl rfl ?_
          refine .cv (VOk.mv (d := (.v (.int .i64 x3_1))) rfl rfl) rfl rfl ?_
          refine .cv (VOk.arith (op := .gtr) (k := .i64) (a := x4_9) (b := x3_1) rfl rfl rfl rfl) rfl rfl ?_
          refine .cv (VOk.mv (d := (.v (.bool (decide (x4_9 > x3_1))))) rfl rfl) rfl rfl ?_
          refine OpsOk.consI rfl rfl rfl (.one rfl) rfl (fun hw12 => (VOk.g (VOk.mv (d := (S a0)) rfl rfl))) ?_
          refine OpsOk.consI rfl rfl rfl (.one rfl) rfl (fun hw12 => (VOk.g (VOk.mv (d := (.v (.int .i64 x4_9))) rfl rfl))) ?_
          refine OpsOk.consI rfl rfl rfl (.one rfl) rfl (fun hw12 => (GOk.fr (fr' := [(23, (.v (.int .i64 x4_9)))]) ⟨DLe.of_eq (cT hw12).symm, trivial⟩ (VOk.g (VOk.arith (op := .sub) (k := .i64) (a := x4_9) (b := 1) rfl rfl rfl rfl)))) ?_
          refine OpsOk.consI rfl rfl rfl (.one rfl) rfl (fun hw12 => (GOk.fr (fr' := [(22, (S a0)), (24, (.v (.int .i64 (IntKind.i64.wrap (x4_9 - 1)))))]) ⟨DLe.of_eq (cT hw12).symm, DLe.of_eq (cT hw12).symm, trivial⟩ (VOk.g (VOk.indexStr (s := a0) (i := (IntKind.i64.wrap (x4_9 - 1))) rfl Try.underlying9 rfl rfl (c13 hw12))))) ?_
          refine OpsOk.consI rfl rfl rfl (.one rfl) rfl (fun hw12 => (GOk.fr (fr' := [(25, (.v (.int .u8 (bt a0 (IntKind.i64.wrap (x4_9 - 1))))))]) ⟨DLe.of_eq (cT hw12).symm, trivial⟩ (GOk.call rfl rfl cl73 rfl (watchbillref01_Blank.ok (ifT h15 hw12)) rfl))) ?_
          refine .cv (VOk.to (VOk.pickI (b := (decide (x4_9 > x3_1))) (p := t14) (q := false) rfl rfl (fun hp16 => (cT (t_beq hp16))) (fun hp16 => rfl)) (pickAnd (decide (x4_9 > x3_1)) t14)) rfl rfl ?_
          exact .done (.rf rfl rfl)
        refine Ok.test (b := ((decide (x4_9 > x3_1)) && t14)) rfl (fun hb18 => ?_) (fun hb18 => ?_)
        · replace H := ifT H hb18
          refine Ok.skip ?_
          refine Ok.block ?_
          refine Ok.region (σ' := ⟨[(0, (S a0)), (3, (.v (.int .i64 x3_1))), (4, (.v (.int .i64 (IntKind.i64.wrap (x4_9 - 1)))))], []⟩) ?_ ?_
          · refine .cv (VOk.mv (d := (.v (.int .i64 x4_9))) rfl rfl) rfl rfl ?_
            refine .cv (VOk.arith (op := .sub) (k := .i64) (a := x4_9) (b := 1) rfl rfl rfl rfl) rfl rfl ?_
            refine .cv (VOk.asg (d := (.v (.int .i64 (IntKind.i64.wrap (x4_9 - 1))))) rfl rfl) rfl rfl ?_
            exact .done (.rf rfl rfl)
          exact ⟨m11, Nat.lt_succ_self m11, (IntKind.i64.wrap (x4_9 - 1)), rfl, H⟩
        · replace H := ifF H hb18
          refine Ok.exit ?_
          refine Ok.seq ?_
          obtain ⟨c17, H⟩ := assertE H
          refine Ok.region (σ' := ⟨[(2, (S (sl a0 x3_1 x4_9)))], []⟩) ?_ ?_
          · refine .cv (VOk.mv (d := (S a0)) rfl rfl) rfl rfl ?_
            refine .cv (VOk.mv (d := (.v (.int .i64 x3_1))) rfl rfl) rfl rfl ?_
            refine .cv (VOk.mv (d := (.v (.int .i64 x4_9))) rfl rfl) rfl rfl ?_
            refine .cv (VOk.sliceStr (s := a0) (l := x3_1) (h := x4_9) rfl Try.underlying9 rfl rfl rfl c17) rfl rfl ?_
            refine .cv (VOk.asg (d := (S (sl a0 x3_1 x4_9))) rfl rfl) rfl rfl ?_
            exact .done (.rf rfl rfl)
          refine Ok.ret ?_
          obtain rfl := Option.some.inj H
          exact ⟨.inl rfl, ⟨_, (.cons (.tmp rfl) .nil), rfl⟩, trivial⟩

/-! watchbill/watchbillref17.trimmed: function 66 -/
def watchbillref17_trimmed (k : Nat) (a0 : Str) : Option Bool := (((if ((!(a0 == ([] : Str))) == true) = true then watchbillref01_Trim k a0 else some default)).bind fun (t2 : Str) => some ((!(a0 == ([] : Str))) && (t2 == a0)))
theorem watchbillref17_trimmed.ok {k : Nat} {a0 : Str} {r : Bool} (H : watchbillref17_trimmed k a0 = some r) : Vx.Fn Try.prog 66 [(S a0)] [] (.v (.bool r)) [] := by
  unfold watchbillref17_trimmed at H
  refine Vx.Fn.of_okR Try.func66 rfl (Nat.le_of_ble_eq_true rfl) ?_
  refine Ok.seq ?_
  refine Ok.region (σ' := ⟨[(0, (S a0))], []⟩) ?_ ?_
  · refine .cv (VOk.asg (d := (.v (.bool false))) rfl rfl) rfl rfl ?_
    exact .done (.rf rfl rfl)
  refine Ok.seq ?_
  obtain ⟨t2, h3, H⟩ := bindE H
  refine Ok.region (σ' := ⟨[(2, (.v (.bool ((!(a0 == ([] : Str))) && (t2 == a0)))))], []⟩) ?_ ?_
  · refine .cv (VOk.mv (d := (S a0)) rfl rfl) rfl rfl ?_
    refine .cv (VOk.strOp (op := .neq) (a := a0) (b := ([] : Str)) rfl rfl rfl rfl) rfl rfl ?_
    refine .cv (VOk.mv (d := (.v (.bool (!(a0 == ([] : Str)))))) rfl rfl) rfl rfl ?_
    refine OpsOk.consI rfl rfl rfl (.one rfl) rfl (fun hw1 => (VOk.g (VOk.mv (d := (S a0)) rfl rfl))) ?_
    refine OpsOk.consI rfl rfl rfl (.one rfl) rfl (fun hw1 => (GOk.fr (fr' := [(6, (S a0))]) ⟨DLe.of_eq (cT hw1).symm, trivial⟩ (GOk.call rfl rfl cl53 rfl (watchbillref01_Trim.ok (ifT h3 hw1)) rfl))) ?_
    refine OpsOk.consI rfl rfl rfl (.one rfl) rfl (fun hw1 => (VOk.g (VOk.mv (d := (S a0)) rfl rfl))) ?_
    refine OpsOk.consI rfl rfl rfl (.one rfl) rfl (fun hw1 => (GOk.fr (fr' := [(7, (S t2)), (8, (S a0))]) ⟨DLe.of_eq (cT hw1).symm, DLe.of_eq (cT hw1).symm, trivial⟩ (VOk.g (VOk.strOp (op := .eql) (a := t2) (b := a0) rfl rfl rfl rfl)))) ?_
    refine .cv (VOk.to (VOk.pickI (b := (!(a0 == ([] : Str)))) (p := (t2 == a0)) (q := false) rfl rfl (fun hp4 => (cT (t_beq hp4))) (fun hp4 => rfl)) (pickAnd (!(a0 == ([] : Str))) (t2 == a0))) rfl rfl ?_
    refine .cv (VOk.asg (d := (.v (.bool ((!(a0 == ([] : Str))) && (t2 == a0))))) rfl rfl) rfl rfl ?_
    exact .done (.rf rfl rfl)
  refine Ok.ret ?_
  obtain rfl := Option.some.inj H
  exact ⟨.inl rfl, ⟨_, (.cons (.tmp rfl) .nil), rfl⟩, trivial⟩

/-! watchbill/watchbillref16.May: function 67 -/
def watchbillref16_May.l0 (k : Nat) (self : T_api_Entry → Option Bool) : Nat → Int → Str → Str → List T_api_Entry → Int → Option Bool
  | 0, _, _, _, _, _ => none
  | m11 + 1, y1_0_2, y1_1_3, y1_2_4, y1_3_5, x3_1 => (if (decide (x3_1 < (y1_3_5.length : Int))) = true then (if (0 : Int) ≤ x3_1 ∧ x3_1 < (y1_3_5.length : Int) then ((self (rd y1_3_5 x3_1)).bind fun (t13 : Bool) => (if (!t13) = true then some false else watchbillref16_May.l0 k self m11 y1_0_2 y1_1_3 y1_2_4 y1_3_5 (IntKind.i64.wrap (x3_1 + 1)))) else none) else some (y1_1_3 == ([] : Str)))
def watchbillref16_May : Nat → T_api_Entry → Option Bool
  | 0, _ => none
  | k + 1, a0 => (if (a0.Kind == 2) = true then watchbillref16_May.l0 k (watchbillref16_May k) k a0.Kind a0.URI a0.Name a0.List_ 0 else (if ((a0.URI == ([] : Str)) || (decide ((a0.List_.length : Int) > 0))) = true then some false else (if (a0.Kind == 1) = true then ((watchbillref01_Trim k a0.Name).bind fun (t19 : Str) => some (t19 == a0.Name)) else some (((a0.Kind == 3) || (a0.Kind == 4)) && (a0.Name == ([] : Str))))))
theorem watchbillref16_May.ok {k : Nat} {a0 : T_api_Entry} {r : Bool} (H : watchbillref16_May k a0 = some r) : Vx.Fn Try.prog 67 [(.agg (e_api_Entry a0))] [] (.v (.bool r)) [] := by
  induction k generalizing a0 r with
  | zero => exact absurd H (by simp [watchbillref16_May])
  | succ k ih =>
    unfold watchbillref16_May at H
    refine Vx.Fn.of_okR Try.func67 rfl (Nat.le_of_ble_eq_true rfl) ?_
    refine Ok.seq ?_
    refine Ok.region (σ' := ⟨[(1, (.bref 1 0))], [(1, (.box .ex (c_api_Entry a0)))]⟩) ?_ ?_
    · refine OpsOk.cut1 0 (.agg [(.v (.int .i64 a0.Kind)), (S a0.URI), (S a0.Name), (L 4 e_api_Entry a0.List_)]) (DLe.of_eq (congrArg D.agg (e_api_Entry_c _).symm)) ?_
      refine OpsOk.cons rfl (OpOk.box 1 (cells := [(.v (.int .i64 a0.Kind)), (S a0.URI), (S a0.Name), (L 4 e_api_Entry a0.List_)]) rfl rfl rfl rfl) ?_
      refine .cv (VOk.asg (d := (.v (.bool false))) rfl rfl) rfl rfl ?_
      exact .done (.rf rfl rfl)
    refine Ok.seq ?_
    refine Ok.seq ?_
    refine Ok.region (σ' := ⟨[(1, (.bref 1 0)), (6, (.v (.bool (a0.Kind == 2))))], [(1, (.box .ex (c_api_Entry a0)))]⟩) ?_ ?_
    · refine .cv (VOk.to (VOk.fieldB rfl Try.underlying56 rfl sz3 rfl rfl) rfl) rfl rfl ?_
      refine .cv (VOk.loadB (d := (.v (.int .i64 a0.Kind))) rfl Try.underlying3 rfl rfl rfl rfl) rfl rfl ?_
      refine .cv (VOk.arith (op := .eql) (k := .i64) (a := a0.Kind) (b := 2) rfl rfl rfl rfl) rfl rfl ?_
      exact .done (.rf rfl rfl)
    refine Ok.test (b := (a0.Kind == 2)) rfl (fun hb27 => ?_) (fun hb27 => ?_)
    · replace H := ifT H hb27
      refine Ok.seq ?_
      refine Ok.seq ?_
      refine Ok.region (σ' := ⟨[(1, (.bref 1 0)), (3, (.v (.int .i64 0)))], [(1, (.box .ex (c_api_Entry a0)))]⟩) ?_ ?_
      · refine .cv (VOk.asg (d := (.v (.int .i64 0))) rfl rfl) rfl rfl ?_
        exact .done (.rf rfl rfl)
      refine Ok.block ?_
      refine Ok.le (σ' := ⟨[(1, (.bref 1 0)), (3, (.v (.int .i64 0)))], [(1, (.box .ex (c_api_Entry a0)))]⟩) (.rf rfl rfl) ?_
      refine Ok.loop (fun m11 σ => ∃ (y1_0_2 : Int) (y1_1_3 : Str) (y1_2_4 : Str) (y1_3_5 : List T_api_Entry) (x3_1 : Int), σ = ⟨[(1, (.bref 1 0)), (3, (.v (.int .i64 x3_1)))], [(1, (.box .ex [(.v (.int .i64 y1_0_2)), (S y1_1_3), (S y1_2_4), (L 4 e_api_Entry y1_3_5)]))]⟩ ∧ watchbillref16_May.l0 k (watchbillref16_May k) m11 y1_0_2 y1_1_3 y1_2_4 y1_3_5 x3_1 = some r) k ⟨a0.Kind, a0.URI, a0.Name, a0.List_, 0, rfl, H⟩ ?_
      rintro m11 σ ⟨y1_0_2, y1_1_3, y1_2_4, y1_3_5, x3_1, rfl, H⟩
      cases m11 with
      | zero => exact absurd H (by simp [watchbillref16_May.l0])
      | succ m11 =>
        unfold watchbillref16_May.l0 at H
        refine Ok.seq ?_
        refine Ok.seq ?_
        refine Ok.region (σ' := ⟨[(1, (.bref 1 0)), (3, (.v (.int .i64 x3_1))), (11, (.v (.bool (decide (x3_1 < (y1_3_5.length : Int))))))], [(1, (.box .ex [(.v (.int .i64 y1_0_2)), (S y1_1_3), (S y1_2_4), (L 4 e_api_Entry y1_3_5)]))]⟩) ?_ ?_
        · refine .cv (VOk.mv (d := (.v (.int .i64 x3_1))) rfl rfl) rfl rfl ?_
          refine .cv (VOk.to (VOk.fieldB rfl Try.underlying56 rfl sz36 rfl rfl) rfl) rfl rfl ?_
          refine .cv (VOk.loadB (d := (L 4 e_api_Entry y1_3_5)) rfl Try.underlying36 rfl rfl rfl rfl) rfl rfl ?_
          refine .cv (VOk.lenL (e := e_api_Entry) (xs := y1_3_5) rfl Try.underlying36 rfl) rfl rfl ?_
          refine .cv (VOk.arith (op := .lss) (k := .i64) (a := x3_1) (b := (y1_3_5.length : Int)) rfl rfl rfl rfl) rfl rfl ?_
          exact .done (.rf rfl rfl)
        refine Ok.test (b := (decide (x3_1 < (y1_3_5.length : Int)))) rfl (fun hb16 => ?_) (fun hb16 => ?_)
        · replace H := ifT H hb16
          refine Ok.skip ?_
          refine Ok.seq ?_
          refine Ok.block ?_
          refine Ok.seq ?_
          obtain ⟨c12, H⟩ := assertE H
          obtain ⟨t13, h14, H⟩ := bindE H
          refine Ok.region (σ' := ⟨[(1, (.bref 1 0)), (3, (.v (.int .i64 x3_1))), (20, (.v (.bool (!t13))))], [(1, (.box .ex [(.v (.int .i64 y1_0_2)), (S y1_1_3), (S y1_2_4), (L 4 e_api_Entry y1_3_5)]))]⟩) ?_ ?_
          · refine .cv (VOk.to (VOk.fieldB rfl Try.underlying56 rfl sz36 rfl rfl) rfl) rfl rfl ?_
            refine .cv (VOk.loadB (d := (L 4 e_api_Entry y1_3_5)) rfl Try.underlying36 rfl rfl rfl rfl) rfl rfl ?_
            refine .cv (VOk.mv (d := (.v (.int .i64 x3_1))) rfl rfl) rfl rfl ?_
            refine .cv (VOk.indexL (sz := 4) (e := e_api_Entry) (xs := y1_3_5) (i := x3_1) rfl Try.underlying36 sz56 rfl rfl c12) rfl rfl ?_
            refine .cv (VOk.to (d' := (.agg (e_api_Entry (rd y1_3_5 x3_1)))) (.loadFpAgg rfl Try.underlying56 rfl sz56 rfl rfl) rfl) rfl rfl ?_
            refine .cg (GOk.call rfl rfl cl67 rfl (@ih _ _ h14) rfl) rfl rfl ?_
            refine .cv (VOk.not (b := t13) rfl rfl) rfl rfl ?_
            exact .done (.rf rfl rfl)
          refine Ok.test (b := (!t13)) rfl (fun hb15 => ?_) (fun hb15 => ?_)
          · replace H := ifT H hb15
            refine Ok.seq ?_
            refine Ok.region (σ' := ⟨[(2, (.v (.bool false)))], []⟩) ?_ ?_
            · refine .cv (VOk.asg (d := (.v (.bool false))) rfl rfl) rfl rfl ?_
              exact .done (.rf rfl rfl)
            refine Ok.ret ?_
            obtain rfl := Option.some.inj H
            exact ⟨.inl rfl, ⟨_, (.cons (.tmp rfl) .nil), rfl⟩, trivial⟩
          · replace H := ifF H hb15
            refine Ok.skip ?_
            refine Ok.region (σ' := ⟨[(1, (.bref 1 0)), (3, (.v (.int .i64 (IntKind.i64.wrap (x3_1 + 1)))))], [(1, (.box .ex [(.v (.int .i64 y1_0_2)), (S y1_1_3), (S y1_2_4), (L 4 e_api_Entry y1_3_5)]))]⟩) ?_ ?_
            · refine .cv (VOk.mv (d := (.v (.int .i64 x3_1))) rfl rfl) rfl rfl ?_
              refine .cv (VOk.arith (op := .add) (k := .i64) (a := x3_1) (b := 1) rfl rfl rfl rfl) rfl rfl ?_
              refine .cv (VOk.asg (d := (.v (.int .i64 (IntKind.i64.wrap (x3_1 + 1))))) rfl rfl) rfl rfl ?_
              exact .done (.rf rfl rfl)
            exact ⟨m11, Nat.lt_succ_self m11, y1_0_2, y1_1_3, y1_2_4, y1_3_5, (IntKind.i64.wrap (x3_1 + 1)), rfl, H⟩
        · replace H := ifF H hb16
          refine Ok.exit ?_
          refine Ok.seq ?_
          refine Ok.region (σ' := ⟨[(2, (.v (.bool (y1_1_3 == ([] : Str)))))], []⟩) ?_ ?_
          · refine .cv (VOk.to (VOk.fieldB rfl Try.underlying56 rfl sz9 rfl rfl) rfl) rfl rfl ?_
            refine .cv (VOk.loadB (d := (S y1_1_3)) rfl Try.underlying9 rfl rfl rfl rfl) rfl rfl ?_
            refine .cv (VOk.strOp (op := .eql) (a := y1_1_3) (b := ([] : Str)) rfl rfl rfl rfl) rfl rfl ?_
            refine .cv (VOk.asg (d := (.v (.bool (y1_1_3 == ([] : Str))))) rfl rfl) rfl rfl ?_
            exact .done (.rf rfl rfl)
          refine Ok.ret ?_
          obtain rfl := Option.some.inj H
          exact ⟨.inl rfl, ⟨_, (.cons (.tmp rfl) .nil), rfl⟩, trivial⟩
    · replace H := ifF H hb27
      refine Ok.skip ?_
      refine Ok.seq ?_
      refine Ok.seq ?_
      refine Ok.region (σ' := ⟨[(1, (.bref 1 0)), (32, (.v (.bool ((a0.URI == ([] : Str)) || (decide ((a0.List_.length : Int) > 0))))))], [(1, (.box .ex (c_api_Entry a0)))]⟩) ?_ ?_
      · refine .cv (VOk.to (VOk.fieldB rfl Try.underlying56 rfl sz9 rfl rfl) rfl) rfl rfl ?_
        refine .cv (VOk.loadB (d := (S a0.URI)) rfl Try.underlying9 rfl rfl rfl rfl) rfl rfl ?_
        refine .cv (VOk.strOp (op := .eql) (a := a0.URI) (b := ([] : Str)) rfl rfl rfl rfl) rfl rfl ?_
        refine .cv (VOk.mv (d := (.v (.bool (a0.URI == ([] : Str))))) rfl rfl) rfl rfl ?_
        refine OpsOk.consI rfl rfl rfl (.one rfl) rfl (fun hw17 => (VOk.g (VOk.to (VOk.fieldB rfl Try.underlying56 rfl sz36 rfl rfl) rfl))) ?_
        refine OpsOk.consI rfl rfl rfl (.one rfl) rfl (fun hw17 => (GOk.fr (fr' := [(28, (.bref 1 3))]) ⟨DLe.of_eq (cT hw17).symm, trivial⟩ (VOk.g (VOk.loadB (d := (L 4 e_api_Entry a0.List_)) rfl Try.underlying36 rfl rfl rfl rfl)))) ?_
        refine OpsOk.consI rfl rfl rfl (.one rfl) rfl (fun hw17 => (GOk.fr (fr' := [(29, (L 4 e_api_Entry a0.List_))]) ⟨DLe.of_eq (cT hw17).symm, trivial⟩ (VOk.g (VOk.lenL (e := e_api_Entry) (xs := a0.List_) rfl Try.underlying36 rfl)))) ?_
        refine OpsOk.consI rfl rfl rfl (.one rfl) rfl (fun hw17 => (GOk.fr (fr' := [(30, (.v (.int .i64 (a0.List_.length : Int))))]) ⟨DLe.of_eq (cT hw17).symm, trivial⟩ (VOk.g (VOk.arith (op := .gtr) (k := .i64) (a := (a0.List_.length : Int)) (b := 0) rfl rfl rfl rfl)))) ?_
        refine .cv (VOk.to (VOk.pickI (b := (a0.URI == ([] : Str))) (p := true) (q := (decide ((a0.List_.length : Int) > 0))) rfl rfl (fun hp18 => rfl) (fun hp18 => (cT (f_beq hp18)))) (pickOr (a0.URI == ([] : Str)) (decide ((a0.List_.length : Int) > 0)))) rfl rfl ?_
        exact .done (.rf rfl rfl)
      refine Ok.test (b := ((a0.URI == ([] : Str)) || (decide ((a0.List_.length : Int) > 0)))) rfl (fun hb26 => ?_) (fun hb26 => ?_)
      · replace H := ifT H hb26
        refine Ok.seq ?_
        refine Ok.region (σ' := ⟨[(2, (.v (.bool false)))], []⟩) ?_ ?_
        · refine .cv (VOk.asg (d := (.v (.bool false))) rfl rfl) rfl rfl ?_
          exact .done (.rf rfl rfl)
        refine Ok.ret ?_
        obtain rfl := Option.some.inj H
        exact ⟨.inl rfl, ⟨_, (.cons (.tmp rfl) .nil), rfl⟩, trivial⟩
      · replace H := ifF H hb26
        refine Ok.skip ?_
        refine Ok.seq ?_
        refine Ok.seq ?_
        refine Ok.region (σ' := ⟨[(1, (.bref 1 0)), (35, (.v (.bool (a0.Kind == 1))))], [(1, (.box .ex (c_api_Entry a0)))]⟩) ?_ ?_
        · refine .cv (VOk.to (VOk.fieldB rfl Try.underlying56 rfl sz3 rfl rfl) rfl) rfl rfl ?_
          refine .cv (VOk.loadB (d := (.v (.int .i64 a0.Kind))) rfl Try.underlying3 rfl rfl rfl rfl) rfl rfl ?_
          refine .cv (VOk.arith (op := .eql) (k := .i64) (a := a0.Kind) (b := 1) rfl rfl rfl rfl) rfl rfl ?_
          exact .done (.rf rfl rfl)
        refine Ok.test (b := (a0.Kind == 1)) rfl (fun hb25 => ?_) (fun hb25 => ?_)
        · replace H := ifT H hb25
          refine Ok.seq ?_
          obtain ⟨t19, h20, H⟩ := bindE H
          refine Ok.drawE (σ' := ⟨[(2, (.v (.bool (t19 == a0.Name))))], []⟩) [⟨true, [(1, (.bref 1 0))], (.bref 1 2)⟩, ⟨true, [(36, (.bref 1 2))], (S a0.Name)⟩, ⟨true, [(37, (S a0.Name))], (S t19)⟩, ⟨true, [(1, (.bref 1 0))], (.bref 1 2)⟩, ⟨true, [(39, (.bref 1 2))], (S a0.Name)⟩, ⟨true, [(38, (S t19)), (40, (S a0.Name))], (.v (.bool (t19 == a0.Name)))⟩, ⟨true, [(41, (.v (.bool (t19 == a0.Name))))], (.v (.bool (t19 == a0.Name)))⟩] [[], [0], [1], [], [3], [2, 4], [5]] mixed (by kernel_rfl) ?_ ?_
          · refine TxtE.cons rfl ⟨.same _, trivial⟩ rfl (VOk.g (VOk.to (VOk.fieldB rfl Try.underlying56 rfl sz9 rfl rfl) rfl)) ?_
            refine TxtE.cons rfl ⟨.same _, trivial⟩ rfl (VOk.g (VOk.loadB (d := (S a0.Name)) rfl Try.underlying9 rfl rfl rfl rfl)) ?_
            refine TxtE.cons rfl ⟨.same _, trivial⟩ rfl (GOk.call rfl rfl cl53 rfl (watchbillref01_Trim.ok h20) rfl) ?_
            refine TxtE.cons rfl ⟨.same _, trivial⟩ rfl (VOk.g (VOk.to (VOk.fieldB rfl Try.underlying56 rfl sz9 rfl rfl) rfl)) ?_
            refine TxtE.cons rfl ⟨.same _, trivial⟩ rfl (VOk.g (VOk.loadB (d := (S a0.Name)) rfl Try.underlying9 rfl rfl rfl rfl)) ?_
            refine TxtE.cons rfl ⟨.same _, .same _, trivial⟩ rfl (VOk.g (VOk.strOp (op := .eql) (a := t19) (b := a0.Name) rfl rfl rfl rfl)) ?_
            refine TxtE.cons rfl ⟨.same _, trivial⟩ rfl (VOk.g (VOk.asg (d := (.v (.bool (t19 == a0.Name)))) rfl rfl)) ?_
            exact .done (.rf rfl rfl)
          refine Ok.ret ?_
          obtain rfl := Option.some.inj H
          exact ⟨.inl rfl, ⟨_, (.cons (.tmp rfl) .nil), rfl⟩, trivial⟩
        · replace H := ifF H hb25
          refine Ok.skip ?_
          refine Ok.seq ?_
          refine Ok.region (σ' := ⟨[(2, (.v (.bool (((a0.Kind == 3) || (a0.Kind == 4)) && (a0.Name == ([] : Str))))))], []⟩) ?_ ?_
          · refine .cv (VOk.to (VOk.fieldB rfl Try.underlying56 rfl sz3 rfl rfl) rfl) rfl rfl ?_
            refine .cv (VOk.loadB (d := (.v (.int .i64 a0.Kind))) rfl Try.underlying3 rfl rfl rfl rfl) rfl rfl ?_
            refine .cv (VOk.arith (op := .eql) (k := .i64) (a := a0.Kind) (b := 3) rfl rfl rfl rfl) rfl rfl ?_
            refine .cv (VOk.mv (d := (.v (.bool (a0.Kind == 3)))) rfl rfl) rfl rfl ?_
            refine OpsOk.consI rfl rfl rfl (.one rfl) rfl (fun hw21 => (VOk.g (VOk.to (VOk.fieldB rfl Try.underlying56 rfl sz3 rfl rfl) rfl))) ?_
            refine OpsOk.consI rfl rfl rfl (.one rfl) rfl (fun hw21 => (GOk.fr (fr' := [(46, (.bref 1 0))]) ⟨DLe.of_eq (cT hw21).symm, trivial⟩ (VOk.g (VOk.loadB (d := (.v (.int .i64 a0.Kind))) rfl Try.underlying3 rfl rfl rfl rfl)))) ?_
            refine OpsOk.consI rfl rfl rfl (.one rfl) rfl (fun hw21 => (GOk.fr (fr' := [(47, (.v (.int .i64 a0.Kind)))]) ⟨DLe.of_eq (cT hw21).symm, trivial⟩ (VOk.g (VOk.arith (op := .eql) (k := .i64) (a := a0.Kind) (b := 4) rfl rfl rfl rfl)))) ?_
            refine .cv (VOk.to (VOk.pickI (b := (a0.Kind == 3)) (p := true) (q := (a0.Kind == 4)) rfl rfl (fun hp22 => rfl) (fun hp22 => (cT (f_beq hp22)))) (pickOr (a0.Kind == 3) (a0.Kind == 4))) rfl rfl ?_
            refine .cv (VOk.mv (d := (.v (.bool ((a0.Kind == 3) || (a0.Kind == 4))))) rfl rfl) rfl rfl ?_
            refine OpsOk.consI rfl rfl rfl (.one rfl) rfl (fun hw23 => (VOk.g (VOk.to (VOk.fieldB rfl Try.underlying56 rfl sz9 rfl rfl) rfl))) ?_
            refine OpsOk.consI rfl rfl rfl (.one rfl) rfl (fun hw23 => (GOk.fr (fr' := [(51, (.bref 1 2))]) ⟨DLe.of_eq (cT hw23).symm, trivial⟩ (VOk.g (VOk.loadB (d := (S a0.Name)) rfl Try.underlying9 rfl rfl rfl rfl)))) ?_
            refine OpsOk.consI rfl rfl rfl (.one rfl) rfl (fun hw23 => (GOk.fr (fr' := [(52, (S a0.Name))]) ⟨DLe.of_eq (cT hw23).symm, trivial⟩ (VOk.g (VOk.strOp (op := .eql) (a := a0.Name) (b := ([] : Str)) rfl rfl rfl rfl)))) ?_
            refine .cv (VOk.to (VOk.pickI (b := ((a0.Kind == 3) || (a0.Kind == 4))) (p := (a0.Name == ([] : Str))) (q := false) rfl rfl (fun hp24 => (cT (t_beq hp24))) (fun hp24 => rfl)) (pickAnd ((a0.Kind == 3) || (a0.Kind == 4)) (a0.Name == ([] : Str)))) rfl rfl ?_
            refine .cv (VOk.asg (d := (.v (.bool (((a0.Kind == 3) || (a0.Kind == 4)) && (a0.Name == ([] : Str)))))) rfl rfl) rfl rfl ?_
            exact .done (.rf rfl rfl)
          refine Ok.ret ?_
          obtain rfl := Option.some.inj H
          exact ⟨.inl rfl, ⟨_, (.cons (.tmp rfl) .nil), rfl⟩, trivial⟩

/-! watchbill/watchbillref17.may: function 38 -/
def watchbillref17_may.l0 (k : Nat) : Nat → Str → List T_api_Entry → Bool → Str → List Str → Int → Option Bool
  | 0, _, _, _, _, _, _ => none
  | m13 + 1, y1_0_2, y1_1_3, y1_2_4, y1_3_5, y1_4_6, x3_1 => (if (decide (x3_1 < (y1_4_6.length : Int))) = true then (if (0 : Int) ≤ x3_1 ∧ x3_1 < (y1_4_6.length : Int) then ((watchbillref17_trimmed k (rd y1_4_6 x3_1)).bind fun (t15 : Bool) => (if (!t15) = true then some false else watchbillref17_may.l0 k m13 y1_0_2 y1_1_3 y1_2_4 y1_3_5 y1_4_6 (IntKind.i64.wrap (x3_1 + 1)))) else none) else (if y1_2_4 = true then (((if (((!(y1_0_2 == ([] : Str))) && (y1_3_5 == ([] : Str))) == true) = true then watchbillref16_May k (T_api_Entry.mk 2 ([] : Str) ([] : Str) y1_1_3) else some default)).bind fun (t21 : Bool) => some (((!(y1_0_2 == ([] : Str))) && (y1_3_5 == ([] : Str))) && t21)) else (((if ((!(y1_0_2 == ([] : Str))) == true) = true then watchbillref17_trimmed k y1_3_5 else some default)).bind fun (t25 : Bool) => some (((!(y1_0_2 == ([] : Str))) && t25) && ((y1_1_3.length : Int) == 0)))))
def watchbillref17_may (k : Nat) (a0 : T_api_Service) : Option Bool := watchbillref17_may.l0 k k a0.URI a0.List_ a0.Inline a0.Ref a0.Packages 0
theorem watchbillref17_may.ok {k : Nat} {a0 : T_api_Service} {r : Bool} (H : watchbillref17_may k a0 = some r) : Vx.Fn Try.prog 38 [(.agg (e_api_Service a0))] [] (.v (.bool r)) [] := by
  unfold watchbillref17_may at H
  refine Vx.Fn.of_okR Try.func38 rfl (Nat.le_of_ble_eq_true rfl) ?_
  refine Ok.seq ?_
  refine Ok.region (σ' := ⟨[(1, (.bref 1 0))], [(1, (.box .ex (c_api_Service a0)))]⟩) ?_ ?_
  · refine OpsOk.cons rfl (OpOk.box 1 (cells := [(S a0.URI), (L 4 e_api_Entry a0.List_), (.v (.bool a0.Inline)), (S a0.Ref), (L 1 eS a0.Packages)]) rfl rfl rfl rfl) ?_
    refine .cv (VOk.asg (d := (.v (.bool false))) rfl rfl) rfl rfl ?_
    exact .done (.rf rfl rfl)
  refine Ok.seq ?_
  refine Ok.seq ?_
  refine Ok.region (σ' := ⟨[(1, (.bref 1 0)), (3, (.v (.int .i64 0)))], [(1, (.box .ex (c_api_Service a0)))]⟩) ?_ ?_
  · refine .cv (VOk.asg (d := (.v (.int .i64 0))) rfl rfl) rfl rfl ?_
    exact .done (.rf rfl rfl)
  refine Ok.block ?_
  refine Ok.le (σ' := ⟨[(1, (.bref 1 0)), (3, (.v (.int .i64 0)))], [(1, (.box .ex (c_api_Service a0)))]⟩) (.rf rfl rfl) ?_
  refine Ok.loop (fun m13 σ => ∃ (y1_0_2 : Str) (y1_1_3 : List T_api_Entry) (y1_2_4 : Bool) (y1_3_5 : Str) (y1_4_6 : List Str) (x3_1 : Int), σ = ⟨[(1, (.bref 1 0)), (3, (.v (.int .i64 x3_1)))], [(1, (.box .ex [(S y1_0_2), (L 4 e_api_Entry y1_1_3), (.v (.bool y1_2_4)), (S y1_3_5), (L 1 eS y1_4_6)]))]⟩ ∧ watchbillref17_may.l0 k m13 y1_0_2 y1_1_3 y1_2_4 y1_3_5 y1_4_6 x3_1 = some r) k ⟨a0.URI, a0.List_, a0.Inline, a0.Ref, a0.Packages, 0, rfl, H⟩ ?_
  rintro m13 σ ⟨y1_0_2, y1_1_3, y1_2_4, y1_3_5, y1_4_6, x3_1, rfl, H⟩
  cases m13 with
  | zero => exact absurd H (by simp [watchbillref17_may.l0])
  | succ m13 =>
    unfold watchbillref17_may.l0 at H
    refine Ok.seq ?_
    refine Ok.seq ?_
    refine Ok.region (σ' := ⟨[(1, (.bref 1 0)), (3, (.v (.int .i64 x3_1))), (8, (.v (.bool (decide (x3_1 < (y1_4_6.length : Int))))))], [(1, (.box .ex [(S y1_0_2), (L 4 e_api_Entry y1_1_3), (.v (.bool y1_2_4)), (S y1_3_5), (L 1 eS y1_4_6)]))]⟩) ?_ ?_
    · refine .cv (VOk.mv (d := (.v (.int .i64 x3_1))) rfl rfl) rfl rfl ?_
      refine .cv (VOk.to (VOk.fieldB rfl Try.underlying39 rfl sz37 rfl rfl) rfl) rfl rfl ?_
      refine .cv (VOk.loadB (d := (L 1 eS y1_4_6)) rfl Try.underlying37 rfl rfl rfl rfl) rfl rfl ?_
      refine .cv (VOk.lenL (e := eS) (xs := y1_4_6) rfl Try.underlying37 rfl) rfl rfl ?_
      refine .cv (VOk.arith (op := .lss) (k := .i64) (a := x3_1) (b := (y1_4_6.length : Int)) rfl rfl rfl rfl) rfl rfl ?_
      exact .done (.rf rfl rfl)
    refine Ok.test (b := (decide (x3_1 < (y1_4_6.length : Int)))) rfl (fun hb31 => ?_) (fun hb31 => ?_)
    · replace H := ifT H hb31
      refine Ok.skip ?_
      refine Ok.seq ?_
      refine Ok.block ?_
      refine Ok.seq ?_
      obtain ⟨c14, H⟩ := assertE H
      obtain ⟨t15, h16, H⟩ := bindE H
      refine Ok.region (σ' := ⟨[(1, (.bref 1 0)), (3, (.v (.int .i64 x3_1))), (17, (.v (.bool (!t15))))], [(1, (.box .ex [(S y1_0_2), (L 4 e_api_Entry y1_1_3), (.v (.bool y1_2_4)), (S y1_3_5), (L 1 eS y1_4_6)]))]⟩) ?_ ?_
      · refine .cv (VOk.to (VOk.fieldB rfl Try.underlying39 rfl sz37 rfl rfl) rfl) rfl rfl ?_
        refine .cv (VOk.loadB (d := (L 1 eS y1_4_6)) rfl Try.underlying37 rfl rfl rfl rfl) rfl rfl ?_
        refine .cv (VOk.mv (d := (.v (.int .i64 x3_1))) rfl rfl) rfl rfl ?_
        refine .cv (VOk.indexL (sz := 1) (e := eS) (xs := y1_4_6) (i := x3_1) rfl Try.underlying37 sz9 rfl rfl c14) rfl rfl ?_
        refine .cv (VOk.loadFp (d := (S (rd y1_4_6 x3_1))) rfl Try.underlying9 rfl rfl rfl) rfl rfl ?_
        refine .cg (GOk.call rfl rfl cl66 rfl (watchbillref17_trimmed.ok h16) rfl) rfl rfl ?_
        refine .cv (VOk.not (b := t15) rfl rfl) rfl rfl ?_
        exact .done (.rf rfl rfl)
      refine Ok.test (b := (!t15)) rfl (fun hb17 => ?_) (fun hb17 => ?_)
      · replace H := ifT H hb17
        refine Ok.seq ?_
        refine Ok.region (σ' := ⟨[(2, (.v (.bool false)))], []⟩) ?_ ?_
        · refine .cv (VOk.asg (d := (.v (.bool false))) rfl rfl) rfl rfl ?_
          exact .done (.rf rfl rfl)
        refine Ok.ret ?_
        obtain rfl := Option.some.inj H
        exact ⟨.inl rfl, ⟨_, (.cons (.tmp rfl) .nil), rfl⟩, trivial⟩
      · replace H := ifF H hb17
        refine Ok.skip ?_
        refine Ok.region (σ' := ⟨[(1, (.bref 1 0)), (3, (.v (.int .i64 (IntKind.i64.wrap (x3_1 + 1)))))], [(1, (.box .ex [(S y1_0_2), (L 4 e_api_Entry y1_1_3), (.v (.bool y1_2_4)), (S y1_3_5), (L 1 eS y1_4_6)]))]⟩) ?_ ?_
        · refine .cv (VOk.mv (d := (.v (.int .i64 x3_1))) rfl rfl) rfl rfl ?_
          refine .cv (VOk.arith (op := .add) (k := .i64) (a := x3_1) (b := 1) rfl rfl rfl rfl) rfl rfl ?_
          refine .cv (VOk.asg (d := (.v (.int .i64 (IntKind.i64.wrap (x3_1 + 1))))) rfl rfl) rfl rfl ?_
          exact .done (.rf rfl rfl)
        exact ⟨m13, Nat.lt_succ_self m13, y1_0_2, y1_1_3, y1_2_4, y1_3_5, y1_4_6, (IntKind.i64.wrap (x3_1 + 1)), rfl, H⟩
    · replace H := ifF H hb31
      refine Ok.exit ?_
      refine Ok.seq ?_
      refine Ok.seq ?_
      refine Ok.region (σ' := ⟨[(1, (.bref 1 0)), (19, (.v (.bool y1_2_4)))], [(1, (.box .ex [(S y1_0_2), (L 4 e_api_Entry y1_1_3), (.v (.bool y1_2_4)), (S y1_3_5), (L 1 eS y1_4_6)]))]⟩) ?_ ?_
      · refine .cv (VOk.to (VOk.fieldB rfl Try.underlying39 rfl sz4 rfl rfl) rfl) rfl rfl ?_
        refine .cv (VOk.loadB (d := (.v (.bool y1_2_4))) rfl Try.underlying4 rfl rfl rfl rfl) rfl rfl ?_
        exact .done (.rf rfl rfl)
      refine Ok.test (b := y1_2_4) rfl (fun hb30 => ?_) (fun hb30 => ?_)
      · replace H := ifT H hb30
        refine Ok.seq ?_
        obtain ⟨t21, h22, H⟩ := bindE H
        refine Ok.region (σ' := ⟨[(2, (.v (.bool (((!(y1_0_2 == ([] : Str))) && (y1_3_5 == ([] : Str))) && t21))))], []⟩) ?_ ?_
        · refine .cv (VOk.to (VOk.fieldB rfl Try.underlying39 rfl sz9 rfl rfl) rfl) rfl rfl ?_
          refine .cv (VOk.loadB (d := (S y1_0_2)) rfl Try.underlying9 rfl rfl rfl rfl) rfl rfl ?_
          refine .cv (VOk.strOp (op := .neq) (a := y1_0_2) (b := ([] : Str)) rfl rfl rfl rfl) rfl rfl ?_
          refine .cv (VOk.mv (d := (.v (.bool (!(y1_0_2 == ([] : Str)))))) rfl rfl) rfl rfl ?_
          refine OpsOk.consI rfl rfl rfl (.one rfl) rfl (fun hw18 => (VOk.g (VOk.to (VOk.fieldB rfl Try.underlying39 rfl sz9 rfl rfl) rfl))) ?_
          refine OpsOk.consI rfl rfl rfl (.one rfl) rfl (fun hw18 => (GOk.fr (fr' := [(24, (.bref 1 3))]) ⟨DLe.of_eq (cT hw18).symm, trivial⟩ (VOk.g (VOk.loadB (d := (S y1_3_5)) rfl Try.underlying9 rfl rfl rfl rfl)))) ?_
          refine OpsOk.consI rfl rfl rfl (.one rfl) rfl (fun hw18 => (GOk.fr (fr' := [(25, (S y1_3_5))]) ⟨DLe.of_eq (cT hw18).symm, trivial⟩ (VOk.g (VOk.strOp (op := .eql) (a := y1_3_5) (b := ([] : Str)) rfl rfl rfl rfl)))) ?_
          refine .cv (VOk.to (VOk.pickI (b := (!(y1_0_2 == ([] : Str)))) (p := (y1_3_5 == ([] : Str))) (q := false) rfl rfl (fun hp19 => (cT (t_beq hp19))) (fun hp19 => rfl)) (pickAnd (!(y1_0_2 == ([] : Str))) (y1_3_5 == ([] : Str)))) rfl rfl ?_
          refine .cv (VOk.mv (d := (.v (.bool ((!(y1_0_2 == ([] : Str))) && (y1_3_5 == ([] : Str)))))) rfl rfl) rfl rfl ?_
          refine OpsOk.consI rfl rfl rfl (.one rfl) rfl (fun hw20 => (VOk.g (VOk.to (VOk.fieldB rfl Try.underlying39 rfl sz36 rfl rfl) rfl))) ?_
          refine OpsOk.consI rfl rfl rfl (.one rfl) rfl (fun hw20 => (GOk.fr (fr' := [(29, (.bref 1 1))]) ⟨DLe.of_eq (cT hw20).symm, trivial⟩ (VOk.g (VOk.loadB (d := (L 4 e_api_Entry y1_1_3)) rfl Try.underlying36 rfl rfl rfl rfl)))) ?_
          refine OpsOk.consI rfl rfl rfl (.one rfl) rfl (fun hw20 => (GOk.fr (fr' := [(30, (L 4 e_api_Entry y1_1_3))]) ⟨DLe.of_eq (cT hw20).symm, trivial⟩ (VOk.g (VOk.to (d' := (.agg (e_api_Entry (T_api_Entry.mk 2 ([] : Str) ([] : Str) y1_1_3)))) (.build [none, none, none, some 4] [(0, 1), (1, 1), (2, 1), (3, 1)] rfl Try.underlying56 (fa56 Try.underlying56) zo56 rfl rfl) (congrArg D.agg (e_api_Entry_c (T_api_Entry.mk 2 ([] : Str) ([] : Str) y1_1_3)).symm))))) ?_
          refine OpsOk.consI rfl rfl rfl (.one rfl) rfl (fun hw20 => (GOk.fr (fr' := [(31, (.agg (e_api_Entry (T_api_Entry.mk 2 ([] : Str) ([] : Str) y1_1_3))))]) ⟨DLe.of_eq (cT hw20).symm, trivial⟩ (GOk.call rfl rfl cl67 rfl (watchbillref16_May.ok (ifT h22 hw20)) rfl))) ?_
          refine .cv (VOk.to (VOk.pickI (b := ((!(y1_0_2 == ([] : Str))) && (y1_3_5 == ([] : Str)))) (p := t21) (q := false) rfl rfl (fun hp23 => (cT (t_beq hp23))) (fun hp23 => rfl)) (pickAnd ((!(y1_0_2 == ([] : Str))) && (y1_3_5 == ([] : Str))) t21)) rfl rfl ?_
          refine .cv (VOk.asg (d := (.v (.bool (((!(y1_0_2 == ([] : Str))) && (y1_3_5 == ([] : Str))) && t21)))) rfl rfl) rfl rfl ?_
          exact .done (.rf rfl rfl)
        refine Ok.ret ?_
        obtain rfl := Option.some.inj H
        exact ⟨.inl rfl, ⟨_, (.cons (.tmp rfl) .nil), rfl⟩, trivial⟩
      · replace H := ifF H hb30
        refine Ok.skip ?_
        refine Ok.seq ?_
        obtain ⟨t25, h26, H⟩ := bindE H
        refine Ok.region (σ' := ⟨[(2, (.v (.bool (((!(y1_0_2 == ([] : Str))) && t25) && ((y1_1_3.length : Int) == 0)))))], []⟩) ?_ ?_
        · refine .cv (VOk.to (VOk.fieldB rfl Try.underlying39 rfl sz9 rfl rfl) rfl) rfl rfl ?_
          refine .cv (VOk.loadB (d := (S y1_0_2)) rfl Try.underlying9 rfl rfl rfl rfl) rfl rfl ?_
          refine .cv (VOk.strOp (op := .neq) (a := y1_0_2) (b := ([] : Str)) rfl rfl rfl rfl) rfl rfl ?_
          refine .cv (VOk.mv (d := (.v (.bool (!(y1_0_2 == ([] : Str)))))) rfl rfl) rfl rfl ?_
          refine OpsOk.consI rfl rfl rfl (.one rfl) rfl (fun hw24 => (VOk.g (VOk.to (VOk.fieldB rfl Try.underlying39 rfl sz9 rfl rfl) rfl))) ?_
          refine OpsOk.consI rfl rfl rfl (.one rfl) rfl (fun hw24 => (GOk.fr (fr' := [(38, (.bref 1 3))]) ⟨DLe.of_eq (cT hw24).symm, trivial⟩ (VOk.g (VOk.loadB (d := (S y1_3_5)) rfl Try.underlying9 rfl rfl rfl rfl)))) ?_
          refine OpsOk.consI rfl rfl rfl (.one rfl) rfl (fun hw24 => (GOk.fr (fr' := [(39, (S y1_3_5))]) ⟨DLe.of_eq (cT hw24).symm, trivial⟩ (GOk.call rfl rfl cl66 rfl (watchbillref17_trimmed.ok (ifT h26 hw24)) rfl))) ?_
          refine .cv (VOk.to (VOk.pickI (b := (!(y1_0_2 == ([] : Str)))) (p := t25) (q := false) rfl rfl (fun hp27 => (cT (t_beq hp27))) (fun hp27 => rfl)) (pickAnd (!(y1_0_2 == ([] : Str))) t25)) rfl rfl ?_
          refine .cv (VOk.mv (d := (.v (.bool ((!(y1_0_2 == ([] : Str))) && t25)))) rfl rfl) rfl rfl ?_
          refine OpsOk.consI rfl rfl rfl (.one rfl) rfl (fun hw28 => (VOk.g (VOk.to (VOk.fieldB rfl Try.underlying39 rfl sz36 rfl rfl) rfl))) ?_
          refine OpsOk.consI rfl rfl rfl (.one rfl) rfl (fun hw28 => (GOk.fr (fr' := [(43, (.bref 1 1))]) ⟨DLe.of_eq (cT hw28).symm, trivial⟩ (VOk.g (VOk.loadB (d := (L 4 e_api_Entry y1_1_3)) rfl Try.underlying36 rfl rfl rfl rfl)))) ?_
          refine OpsOk.consI rfl rfl rfl (.one rfl) rfl (fun hw28 => (GOk.fr (fr' := [(44, (L 4 e_api_Entry y1_1_3))]) ⟨DLe.of_eq (cT hw28).symm, trivial⟩ (VOk.g (VOk.lenL (e := e_api_Entry) (xs := y1_1_3) rfl Try.underlying36 rfl)))) ?_
          refine OpsOk.consI rfl rfl rfl (.one rfl) rfl (fun hw28 => (GOk.fr (fr' := [(45, (.v (.int .i64 (y1_1_3.length : Int))))]) ⟨DLe.of_eq (cT hw28).symm, trivial⟩ (VOk.g (VOk.arith (op := .eql) (k := .i64) (a := (y1_1_3.length : Int)) (b := 0) rfl rfl rfl rfl)))) ?_
          refine .cv (VOk.to (VOk.pickI (b := ((!(y1_0_2 == ([] : Str))) && t25)) (p := ((y1_1_3.length : Int) == 0)) (q := false) rfl rfl (fun hp29 => (cT (t_beq hp29))) (fun hp29 => rfl)) (pickAnd ((!(y1_0_2 == ([] : Str))) && t25) ((y1_1_3.length : Int) == 0))) rfl rfl ?_
          refine .cv (VOk.asg (d := (.v (.bool (((!(y1_0_2 == ([] : Str))) && t25) && ((y1_1_3.length : Int) == 0))))) rfl rfl) rfl rfl ?_
          exact .done (.rf rfl rfl)
        refine Ok.ret ?_
        obtain rfl := Option.some.inj H
        exact ⟨.inl rfl, ⟨_, (.cons (.tmp rfl) .nil), rfl⟩, trivial⟩

/-! watchbill/watchbillref16.El: function 40 -/
def watchbillref16_El (a0 : Str) (a1 : Str) (a2 : Str) (a3 : Str) (a4 : List T_api_Node) : Option T_api_Node := (if (!(a3 == ([] : Str))) = true then (if (([] : List T_api_Attr).length + ([(T_api_Attr.mk (T_api_Name.mk ((T_api_Name.mk ([] : Str) a2).Space) ((T_api_Name.mk ([] : Str) a2).Local)) a3)] : List T_api_Attr).length) * 48 ≤ 140737488355328 then some (T_api_Node.mk 1 (T_api_Name.mk ((T_api_Name.mk a0 a1).Space) ((T_api_Name.mk a0 a1).Local)) (([] : List T_api_Attr) ++ ([(T_api_Attr.mk (T_api_Name.mk ((T_api_Name.mk ([] : Str) a2).Space) ((T_api_Name.mk ([] : Str) a2).Local)) a3)] : List T_api_Attr)) a4 ([] : Str)) else none) else some (T_api_Node.mk 1 (T_api_Name.mk ((T_api_Name.mk a0 a1).Space) ((T_api_Name.mk a0 a1).Local)) ([] : List T_api_Attr) a4 ([] : Str)))
theorem watchbillref16_El.ok {a0 : Str} {a1 : Str} {a2 : Str} {a3 : Str} {a4 : List T_api_Node} {r : T_api_Node} (H : watchbillref16_El a0 a1 a2 a3 a4 = some r) : Vx.Fn Try.prog 40 [(S a0), (S a1), (S a2), (S a3), (L 6 e_api_Node a4)] [] (.agg (e_api_Node r)) [] := by
  unfold watchbillref16_El at H
  refine Vx.Fn.of_okR Try.func40 rfl (Nat.le_of_ble_eq_true rfl) ?_
  refine Ok.seq ?_
  refine Ok.region (σ' := ⟨[(0, (S a0)), (1, (S a1)), (2, (S a2)), (3, (S a3)), (4, (L 6 e_api_Node a4)), (10, (.bref 10 0))], [(10, (.box .ex [(.v (.int .i64 0)), (S ([] : Str)), (S ([] : Str)), (L 3 e_api_Attr ([] : List T_api_Attr)), (L 6 e_api_Node ([] : List T_api_Node)), (S ([] : Str))]))]⟩) ?_ ?_
  · refine OpsOk.cons rfl (OpOk.alloc 10 [none, none, none, some 3, some 6, none] rfl zo27 rfl rfl) ?_
    exact .done (.rf rfl rfl)
  refine Ok.seq ?_
  refine Ok.region (σ' := ⟨[(2, (S a2)), (3, (S a3)), (10, (.bref 10 0)), (11, (.bref 11 0))], [(10, (.box .ex [(.v (.int .i64 0)), (S ([] : Str)), (S ([] : Str)), (L 3 e_api_Attr ([] : List T_api_Attr)), (L 6 e_api_Node ([] : List T_api_Node)), (S ([] : Str))])), (11, (.box .ex [(.v (.int .i64 1)), (S ((T_api_Name.mk a0 a1).Space)), (S ((T_api_Name.mk a0 a1).Local)), (.sref 1223), (L 6 e_api_Node a4), (S ([] : Str))])), (1223, (.rows true 75 3 (([] : List T_api_Attr).map e_api_Attr)))]⟩) ?_ ?_
  · refine .cv (VOk.mv (d := (S a0)) rfl rfl) rfl rfl ?_
    refine .cv (VOk.mv (d := (S a1)) rfl rfl) rfl rfl ?_
    refine .cv (VOk.to (d' := (.agg (e_api_Name (T_api_Name.mk a0 a1)))) (.build [none, none] [(0, 1), (1, 1)] rfl Try.underlying23 (fa23 Try.underlying23) zo23 rfl rfl) rfl) rfl rfl ?_
    refine .cv (VOk.mv (d := (L 6 e_api_Node a4)) rfl rfl) rfl rfl ?_
    refine .cv (VOk.to (d' := (.agg [(.v (.int .i64 1)), (S ((T_api_Name.mk a0 a1).Space)), (S ((T_api_Name.mk a0 a1).Local)), (.v (.slice none 0 0)), (L 6 e_api_Node a4), (S ([] : Str))])) (.build [none, none, none, none, some 6, none] [(0, 1), (1, 2), (3, 1), (4, 1), (5, 1)] rfl Try.underlying27 (fa27 Try.underlying27) zo27 rfl rfl) rfl) rfl rfl ?_
    refine OpsOk.cons rfl (OpOk.alloc 11 [none, none, none, none, some 6, none] rfl zo27 rfl rfl) ?_
    refine OpsOk.sle (SLe.adopt 11 1223 3 75 3 rfl rfl rfl rfl rfl) ?_
    refine OpsOk.cons rfl (OpOk.to (σ2 := St.put ⟨_, (11, (.box .ex [(.v (.int .i64 1)), (S ((T_api_Name.mk a0 a1).Space)), (S ((T_api_Name.mk a0 a1).Local)), (.v (.slice none 0 0)), (L 6 e_api_Node a4), (S ([] : Str))])) :: _⟩ _ .junk) (.storeB rfl sz27 rfl rfl rfl rfl rfl rfl) rfl) ?_
    refine OpsOk.sle (SLe.adopt 11 1223 3 75 3 rfl rfl rfl rfl rfl) ?_
    exact .done (.rf rfl rfl)
  refine Ok.seq ?_
  refine Ok.seq ?_
  refine Ok.region (σ' := ⟨[(2, (S a2)), (3, (S a3)), (10, (.bref 10 0)), (11, (.bref 11 0)), (18, (.v (.bool (!(a3 == ([] : Str))))))], [(10, (.box .ex [(.v (.int .i64 0)), (S ([] : Str)), (S ([] : Str)), (L 3 e_api_Attr ([] : List T_api_Attr)), (L 6 e_api_Node ([] : List T_api_Node)), (S ([] : Str))])), (11, (.box .ex [(.v (.int .i64 1)), (S ((T_api_Name.mk a0 a1).Space)), (S ((T_api_Name.mk a0 a1).Local)), (.sref 1223), (L 6 e_api_Node a4), (S ([] : Str))])), (1223, (.rows true 75 3 (([] : List T_api_Attr).map e_api_Attr)))]⟩) ?_ ?_
  · refine .cv (VOk.mv (d := (S a3)) rfl rfl) rfl rfl ?_
    refine .cv (VOk.strOp (op := .neq) (a := a3) (b := ([] : Str)) rfl rfl rfl rfl) rfl rfl ?_
    exact .done (.rf rfl rfl)
  refine Ok.test (b := (!(a3 == ([] : Str)))) rfl (fun hb2 => ?_) (fun hb2 => ?_)
  · replace H := ifT H hb2
    obtain ⟨c1, H⟩ := assertE H
    refine Ok.region (σ' := ⟨[(10, (.bref 10 0)), (11, (.bref 11 0))], [(10, (.box .ex [(.v (.int .i64 0)), (S ([] : Str)), (S ([] : Str)), (L 3 e_api_Attr ([] : List T_api_Attr)), (L 6 e_api_Node ([] : List T_api_Node)), (S ([] : Str))])), (11, (.box .ex [(.v (.int .i64 1)), (S ((T_api_Name.mk a0 a1).Space)), (S ((T_api_Name.mk a0 a1).Local)), (.sref 1223), (L 6 e_api_Node a4), (S ([] : Str))])), (1223, (.rows true 75 3 ((([] : List T_api_Attr) ++ ([(T_api_Attr.mk (T_api_Name.mk ((T_api_Name.mk ([] : Str) a2).Space) ((T_api_Name.mk ([] : Str) a2).Local)) a3)] : List T_api_Attr)).map e_api_Attr)))]⟩) ?_ ?_
    · refine .cv (VOk.to (VOk.fieldB rfl Try.underlying27 rfl sz24 rfl rfl) rfl) rfl rfl ?_
      refine .cv (VOk.loadB (d := (.sref 1223)) rfl Try.underlying24 rfl rfl rfl rfl) rfl rfl ?_
      refine .cv (VOk.mv (d := (S a2)) rfl rfl) rfl rfl ?_
      refine .cv (VOk.to (d' := (.agg (e_api_Name (T_api_Name.mk ([] : Str) a2)))) (.build [none, none] [(0, 1), (1, 1)] rfl Try.underlying23 (fa23 Try.underlying23) zo23 rfl rfl) rfl) rfl rfl ?_
      refine .cv (VOk.mv (d := (S a3)) rfl rfl) rfl rfl ?_
      refine .cv (VOk.to (d' := (.agg (e_api_Attr (T_api_Attr.mk (T_api_Name.mk ((T_api_Name.mk ([] : Str) a2).Space) ((T_api_Name.mk ([] : Str) a2).Local)) a3)))) (.build [none, none, none] [(0, 2), (2, 1)] rfl Try.underlying75 (fa75 Try.underlying75) zo75 rfl rfl) rfl) rfl rfl ?_
      refine .cg (GOk.to (d' := (L 3 e_api_Attr ([(T_api_Attr.mk (T_api_Name.mk ((T_api_Name.mk ([] : Str) a2).Space) ((T_api_Name.mk ([] : Str) a2).Local)) a3)] : List T_api_Attr))) (GOk.lit rfl Try.underlying24 sz75 zs75 rfl rfl rfl rfl) rfl) rfl rfl ?_
      refine OpsOk.cons rfl (OpOk.appendL (e := e_api_Attr) (xs := ([] : List T_api_Attr)) (ys := ([(T_api_Attr.mk (T_api_Name.mk ((T_api_Name.mk ([] : Str) a2).Space) ((T_api_Name.mk ([] : Str) a2).Local)) a3)] : List T_api_Attr)) rfl Try.underlying24 elt75 rfl rfl rfl c1 rfl) ?_
      refine .cv (VOk.to (VOk.fieldB rfl Try.underlying27 rfl sz24 rfl rfl) rfl) rfl rfl ?_
      refine OpsOk.cons rfl (OpOk.to (σ2 := St.put ⟨_, (11, (.box .ex [(.v (.int .i64 1)), (S ((T_api_Name.mk a0 a1).Space)), (S ((T_api_Name.mk a0 a1).Local)), (.sref 1223), (L 6 e_api_Node a4), (S ([] : Str))])) :: _⟩ _ .junk) (.storeB rfl sz24 rfl rfl rfl rfl rfl rfl) rfl) ?_
      exact .done (.rf rfl rfl)
    refine Ok.seq ?_
    refine Ok.region (σ' := ⟨[(10, (.bref 10 0))], [(10, (.box .ex (c_api_Node (T_api_Node.mk 1 (T_api_Name.mk ((T_api_Name.mk a0 a1).Space) ((T_api_Name.mk a0 a1).Local)) (([] : List T_api_Attr) ++ ([(T_api_Attr.mk (T_api_Name.mk ((T_api_Name.mk ([] : Str) a2).Space) ((T_api_Name.mk ([] : Str) a2).Local)) a3)] : List T_api_Attr)) a4 ([] : Str)))))]⟩) ?_ ?_
    · refine OpsOk.frzL 1223 (e := e_api_Attr) (xs := (([] : List T_api_Attr) ++ ([(T_api_Attr.mk (T_api_Name.mk ((T_api_Name.mk ([] : Str) a2).Space) ((T_api_Name.mk ([] : Str) a2).Local)) a3)] : List T_api_Attr))) rfl ?_
      refine .cv (VOk.to (d' := (.agg (e_api_Node (T_api_Node.mk 1 (T_api_Name.mk ((T_api_Name.mk a0 a1).Space) ((T_api_Name.mk a0 a1).Local)) (([] : List T_api_Attr) ++ ([(T_api_Attr.mk (T_api_Name.mk ((T_api_Name.mk ([] : Str) a2).Space) ((T_api_Name.mk ([] : Str) a2).Local)) a3)] : List T_api_Attr)) a4 ([] : Str))))) (.loadBAgg rfl Try.underlying27 rfl sz27 rfl rfl rfl) (congrArg D.agg (e_api_Node_c (T_api_Node.mk 1 (T_api_Name.mk ((T_api_Name.mk a0 a1).Space) ((T_api_Name.mk a0 a1).Local)) (([] : List T_api_Attr) ++ ([(T_api_Attr.mk (T_api_Name.mk ((T_api_Name.mk ([] : Str) a2).Space) ((T_api_Name.mk ([] : Str) a2).Local)) a3)] : List T_api_Attr)) a4 ([] : Str))).symm)) rfl rfl ?_
      refine OpsOk.cut1 28 (.agg [(.v (.int .i64 ((T_api_Node.mk 1 (T_api_Name.mk ((T_api_Name.mk a0 a1).Space) ((T_api_Name.mk a0 a1).Local)) (([] : List T_api_Attr) ++ ([(T_api_Attr.mk (T_api_Name.mk ((T_api_Name.mk ([] : Str) a2).Space) ((T_api_Name.mk ([] : Str) a2).Local)) a3)] : List T_api_Attr)) a4 ([] : Str)).Kind))), (S ((T_api_Node.mk 1 (T_api_Name.mk ((T_api_Name.mk a0 a1).Space) ((T_api_Name.mk a0 a1).Local)) (([] : List T_api_Attr) ++ ([(T_api_Attr.mk (T_api_Name.mk ((T_api_Name.mk ([] : Str) a2).Space) ((T_api_Name.mk ([] : Str) a2).Local)) a3)] : List T_api_Attr)) a4 ([] : Str)).Name.Space)), (S ((T_api_Node.mk 1 (T_api_Name.mk ((T_api_Name.mk a0 a1).Space) ((T_api_Name.mk a0 a1).Local)) (([] : List T_api_Attr) ++ ([(T_api_Attr.mk (T_api_Name.mk ((T_api_Name.mk ([] : Str) a2).Space) ((T_api_Name.mk ([] : Str) a2).Local)) a3)] : List T_api_Attr)) a4 ([] : Str)).Name.Local)), (L 3 e_api_Attr ((T_api_Node.mk 1 (T_api_Name.mk ((T_api_Name.mk a0 a1).Space) ((T_api_Name.mk a0 a1).Local)) (([] : List T_api_Attr) ++ ([(T_api_Attr.mk (T_api_Name.mk ((T_api_Name.mk ([] : Str) a2).Space) ((T_api_Name.mk ([] : Str) a2).Local)) a3)] : List T_api_Attr)) a4 ([] : Str)).Attrs)), (L 6 e_api_Node ((T_api_Node.mk 1 (T_api_Name.mk ((T_api_Name.mk a0 a1).Space) ((T_api_Name.mk a0 a1).Local)) (([] : List T_api_Attr) ++ ([(T_api_Attr.mk (T_api_Name.mk ((T_api_Name.mk ([] : Str) a2).Space) ((T_api_Name.mk ([] : Str) a2).Local)) a3)] : List T_api_Attr)) a4 ([] : Str)).Kids)), (S ((T_api_Node.mk 1 (T_api_Name.mk ((T_api_Name.mk a0 a1).Space) ((T_api_Name.mk a0 a1).Local)) (([] : List T_api_Attr) ++ ([(T_api_Attr.mk (T_api_Name.mk ((T_api_Name.mk ([] : Str) a2).Space) ((T_api_Name.mk ([] : Str) a2).Local)) a3)] : List T_api_Attr)) a4 ([] : Str)).Text))]) (DLe.of_eq (congrArg D.agg (e_api_Node_c _).symm)) ?_
      refine OpsOk.cons rfl (OpOk.to (σ2 := St.put ⟨_, (10, (.box .ex (c_api_Node (T_api_Node.mk 1 (T_api_Name.mk ((T_api_Name.mk a0 a1).Space) ((T_api_Name.mk a0 a1).Local)) (([] : List T_api_Attr) ++ ([(T_api_Attr.mk (T_api_Name.mk ((T_api_Name.mk ([] : Str) a2).Space) ((T_api_Name.mk ([] : Str) a2).Local)) a3)] : List T_api_Attr)) a4 ([] : Str))))) :: _⟩ _ .junk) (.storeB rfl sz27 rfl rfl rfl rfl rfl rfl) rfl) ?_
      exact .done (.rf rfl rfl)
    refine Ok.ret ?_
    obtain rfl := Option.some.inj H
    exact ⟨.inl rfl, ⟨_, (.cons (.cell (VOk.to (d' := (.agg (e_api_Node (T_api_Node.mk 1 (T_api_Name.mk ((T_api_Name.mk a0 a1).Space) ((T_api_Name.mk a0 a1).Local)) (([] : List T_api_Attr) ++ ([(T_api_Attr.mk (T_api_Name.mk ((T_api_Name.mk ([] : Str) a2).Space) ((T_api_Name.mk ([] : Str) a2).Local)) a3)] : List T_api_Attr)) a4 ([] : Str))))) (.loadBAgg rfl Try.underlying27 rfl sz27 rfl rfl rfl) (congrArg D.agg (e_api_Node_c (T_api_Node.mk 1 (T_api_Name.mk ((T_api_Name.mk a0 a1).Space) ((T_api_Name.mk a0 a1).Local)) (([] : List T_api_Attr) ++ ([(T_api_Attr.mk (T_api_Name.mk ((T_api_Name.mk ([] : Str) a2).Space) ((T_api_Name.mk ([] : Str) a2).Local)) a3)] : List T_api_Attr)) a4 ([] : Str))).symm))) .nil), rfl⟩, trivial⟩
  · replace H := ifF H hb2
    refine Ok.skip ?_
    refine Ok.seq ?_
    refine Ok.region (σ' := ⟨[(10, (.bref 10 0))], [(10, (.box .ex (c_api_Node (T_api_Node.mk 1 (T_api_Name.mk ((T_api_Name.mk a0 a1).Space) ((T_api_Name.mk a0 a1).Local)) ([] : List T_api_Attr) a4 ([] : Str)))))]⟩) ?_ ?_
    · refine OpsOk.frzL 1223 (e := e_api_Attr) (xs := ([] : List T_api_Attr)) rfl ?_
      refine .cv (VOk.to (d' := (.agg (e_api_Node (T_api_Node.mk 1 (T_api_Name.mk ((T_api_Name.mk a0 a1).Space) ((T_api_Name.mk a0 a1).Local)) ([] : List T_api_Attr) a4 ([] : Str))))) (.loadBAgg rfl Try.underlying27 rfl sz27 rfl rfl rfl) (congrArg D.agg (e_api_Node_c (T_api_Node.mk 1 (T_api_Name.mk ((T_api_Name.mk a0 a1).Space) ((T_api_Name.mk a0 a1).Local)) ([] : List T_api_Attr) a4 ([] : Str))).symm)) rfl rfl ?_
      refine OpsOk.cut1 28 (.agg [(.v (.int .i64 ((T_api_Node.mk 1 (T_api_Name.mk ((T_api_Name.mk a0 a1).Space) ((T_api_Name.mk a0 a1).Local)) ([] : List T_api_Attr) a4 ([] : Str)).Kind))), (S ((T_api_Node.mk 1 (T_api_Name.mk ((T_api_Name.mk a0 a1).Space) ((T_api_Name.mk a0 a1).Local)) ([] : List T_api_Attr) a4 ([] : Str)).Name.Space)), (S ((T_api_Node.mk 1 (T_api_Name.mk ((T_api_Name.mk a0 a1).Space) ((T_api_Name.mk a0 a1).Local)) ([] : List T_api_Attr) a4 ([] : Str)).Name.Local)), (L 3 e_api_Attr ((T_api_Node.mk 1 (T_api_Name.mk ((T_api_Name.mk a0 a1).Space) ((T_api_Name.mk a0 a1).Local)) ([] : List T_api_Attr) a4 ([] : Str)).Attrs)), (L 6 e_api_Node ((T_api_Node.mk 1 (T_api_Name.mk ((T_api_Name.mk a0 a1).Space) ((T_api_Name.mk a0 a1).Local)) ([] : List T_api_Attr) a4 ([] : Str)).Kids)), (S ((T_api_Node.mk 1 (T_api_Name.mk ((T_api_Name.mk a0 a1).Space) ((T_api_Name.mk a0 a1).Local)) ([] : List T_api_Attr) a4 ([] : Str)).Text))]) (DLe.of_eq (congrArg D.agg (e_api_Node_c _).symm)) ?_
      refine OpsOk.cons rfl (OpOk.to (σ2 := St.put ⟨_, (10, (.box .ex (c_api_Node (T_api_Node.mk 1 (T_api_Name.mk ((T_api_Name.mk a0 a1).Space) ((T_api_Name.mk a0 a1).Local)) ([] : List T_api_Attr) a4 ([] : Str))))) :: _⟩ _ .junk) (.storeB rfl sz27 rfl rfl rfl rfl rfl rfl) rfl) ?_
      exact .done (.rf rfl rfl)
    refine Ok.ret ?_
    obtain rfl := Option.some.inj H
    exact ⟨.inl rfl, ⟨_, (.cons (.cell (VOk.to (d' := (.agg (e_api_Node (T_api_Node.mk 1 (T_api_Name.mk ((T_api_Name.mk a0 a1).Space) ((T_api_Name.mk a0 a1).Local)) ([] : List T_api_Attr) a4 ([] : Str))))) (.loadBAgg rfl Try.underlying27 rfl sz27 rfl rfl rfl) (congrArg D.agg (e_api_Node_c (T_api_Node.mk 1 (T_api_Name.mk ((T_api_Name.mk a0 a1).Space) ((T_api_Name.mk a0 a1).Local)) ([] : List T_api_Attr) a4 ([] : Str))).symm))) .nil), rfl⟩, trivial⟩

/-! watchbill/watchbillref17.words: function 68 -/
def watchbillref17_words (a0 : Str) (a1 : Str) : Option T_api_Node := ((watchbillref16_El ([117, 114, 110, 58, 105, 101, 116, 102, 58, 112, 97, 114, 97, 109, 115, 58, 120, 109, 108, 58, 110, 115, 58, 114, 108, 115, 45, 115, 101, 114, 118, 105, 99, 101, 115] : Str) a0 ([] : Str) ([] : Str) ([(T_api_Node.mk 2 (T_api_Name.mk ([] : Str) ([] : Str)) ([] : List T_api_Attr) ([] : List T_api_Node) a1)] : List T_api_Node)).bind fun (t1 : T_api_Node) => some t1)
theorem watchbillref17_words.ok {a0 : Str} {a1 : Str} {r : T_api_Node} (H : watchbillref17_words a0 a1 = some r) : Vx.Fn Try.prog 68 [(S a0), (S a1)] [] (.agg (e_api_Node r)) [] := by
  unfold watchbillref17_words at H
  refine Vx.Fn.of_okR Try.func68 rfl (Nat.le_of_ble_eq_true rfl) ?_
  refine Ok.seq ?_
  refine Ok.region (σ' := ⟨[(0, (S a0)), (1, (S a1)), (4, (.bref 4 0))], [(4, (.box .ex [(.v (.int .i64 0)), (S ([] : Str)), (S ([] : Str)), (L 3 e_api_Attr ([] : List T_api_Attr)), (L 6 e_api_Node ([] : List T_api_Node)), (S ([] : Str))]))]⟩) ?_ ?_
  · refine OpsOk.cons rfl (OpOk.alloc 4 [none, none, none, some 3, some 6, none] rfl zo27 rfl rfl) ?_
    exact .done (.rf rfl rfl)
  refine Ok.seq ?_
  obtain ⟨t1, h2, H⟩ := bindE H
  refine Ok.region (σ' := ⟨[(4, (.bref 4 0))], [(4, (.box .ex (c_api_Node t1)))]⟩) ?_ ?_
  · refine .cv (VOk.mv (d := (S a0)) rfl rfl) rfl rfl ?_
    refine .cv (VOk.mv (d := (S a1)) rfl rfl) rfl rfl ?_
    refine .cv (VOk.to (d' := (.agg (e_api_Node (T_api_Node.mk 2 (T_api_Name.mk ([] : Str) ([] : Str)) ([] : List T_api_Attr) ([] : List T_api_Node) a1)))) (.build [none, none, none, some 3, some 6, none] [(0, 1), (1, 2), (3, 1), (4, 1), (5, 1)] rfl Try.underlying27 (fa27 Try.underlying27) zo27 rfl rfl) (congrArg D.agg (e_api_Node_c (T_api_Node.mk 2 (T_api_Name.mk ([] : Str) ([] : Str)) ([] : List T_api_Attr) ([] : List T_api_Node) a1)).symm)) rfl rfl ?_
    refine .cg (GOk.to (d' := (L 6 e_api_Node ([(T_api_Node.mk 2 (T_api_Name.mk ([] : Str) ([] : Str)) ([] : List T_api_Attr) ([] : List T_api_Node) a1)] : List T_api_Node))) (GOk.lit rfl Try.underlying25 sz27 zs27 rfl rfl rfl rfl) rfl) rfl rfl ?_
    refine .cg (GOk.call rfl rfl cl40 rfl (watchbillref16_El.ok h2) rfl) rfl rfl ?_
    refine OpsOk.cut1 9 (.agg [(.v (.int .i64 t1.Kind)), (S t1.Name.Space), (S t1.Name.Local), (L 3 e_api_Attr t1.Attrs), (L 6 e_api_Node t1.Kids), (S t1.Text)]) (DLe.of_eq (congrArg D.agg (e_api_Node_c _).symm)) ?_
    refine OpsOk.cons rfl (OpOk.to (σ2 := St.put ⟨_, (4, (.box .ex (c_api_Node t1))) :: _⟩ _ .junk) (.storeB rfl sz27 rfl rfl rfl rfl rfl rfl) rfl) ?_
    exact .done (.rf rfl rfl)
  refine Ok.ret ?_
  obtain rfl := Option.some.inj H
  exact ⟨.inl rfl, ⟨_, (.cons (.cell (VOk.to (d' := (.agg (e_api_Node t1))) (.loadBAgg rfl Try.underlying27 rfl sz27 rfl rfl rfl) (congrArg D.agg (e_api_Node_c t1).symm))) .nil), rfl⟩, trivial⟩

/-! watchbill/watchbillref16.Made: function 69 -/
def watchbillref16_Made.j0 (a0 : T_api_Entry) (y3_5 : List T_api_Node) : Option T_api_Node := ((watchbillref16_El ([117, 114, 110, 58, 105, 101, 116, 102, 58, 112, 97, 114, 97, 109, 115, 58, 120, 109, 108, 58, 110, 115, 58, 114, 101, 115, 111, 117, 114, 99, 101, 45, 108, 105, 115, 116, 115] : Str) ([101, 110, 116, 114, 121] : Str) ([117, 114, 105] : Str) a0.URI y3_5).bind fun (t6 : T_api_Node) => some t6)
def watchbillref16_Made.l1 (k : Nat) (self : T_api_Entry → Option T_api_Node) : Nat → Int → Str → Str → List T_api_Entry → Int → Str → Str → List T_api_Attr → List T_api_Node → Str → List T_api_Node → Int → Option T_api_Node
  | 0, _, _, _, _, _, _, _, _, _, _, _, _ => none
  | m36 + 1, y1_0_13, y1_1_14, y1_2_15, y1_3_16, y2_0_17, y2_1_18, y2_2_19, y2_3_20, y2_4_21, y2_5_22, y3_23, x4_12 => (if (decide (x4_12 < (y1_3_16.length : Int))) = true then (if (0 : Int) ≤ x4_12 ∧ x4_12 < (y1_3_16.length : Int) then ((self (rd y1_3_16 x4_12)).bind fun (t38 : T_api_Node) => (if (y3_23.length + ([t38] : List T_api_Node).length) * 104 ≤ 140737488355328 then watchbillref16_Made.l1 k self m36 y1_0_13 y1_1_14 y1_2_15 y1_3_16 y2_0_17 y2_1_18 y2_2_19 y2_3_20 y2_4_21 y2_5_22 (y3_23 ++ ([t38] : List T_api_Node)) (IntKind.i64.wrap (x4_12 + 1)) else none)) else none) else ((watchbillref16_El ([117, 114, 110, 58, 105, 101, 116, 102, 58, 112, 97, 114, 97, 109, 115, 58, 120, 109, 108, 58, 110, 115, 58, 114, 101, 115, 111, 117, 114, 99, 101, 45, 108, 105, 115, 116, 115] : Str) ([108, 105, 115, 116] : Str) ([110, 97, 109, 101] : Str) y1_2_15 y3_23).bind fun (t41 : T_api_Node) => some t41))
def watchbillref16_Made : Nat → T_api_Entry → Option T_api_Node
  | 0, _ => none
  | k + 1, a0 => (if (a0.Kind == 3) = true then ((watchbillref16_El ([117, 114, 110, 58, 105, 101, 116, 102, 58, 112, 97, 114, 97, 109, 115, 58, 120, 109, 108, 58, 110, 115, 58, 114, 101, 115, 111, 117, 114, 99, 101, 45, 108, 105, 115, 116, 115] : Str) ([101, 120, 116, 101, 114, 110, 97, 108] : Str) ([97, 110, 99, 104, 111, 114] : Str) a0.URI ([] : List T_api_Node)).bind fun (t1 : T_api_Node) => some t1) else (if (a0.Kind == 4) = true then ((watchbillref16_El ([117, 114, 110, 58, 105, 101, 116, 102, 58, 112, 97, 114, 97, 109, 115, 58, 120, 109, 108, 58, 110, 115, 58, 114, 101, 115, 111, 117, 114, 99, 101, 45, 108, 105, 115, 116, 115] : Str) ([101, 110, 116, 114, 121, 45, 114, 101, 102] : Str) ([114, 101, 102] : Str) a0.URI ([] : List T_api_Node)).bind fun (t3 : T_api_Node) => some t3) else (if (a0.Kind == 1) = true then (if (!(a0.Name == ([] : Str))) = true then ((watchbillref16_El ([117, 114, 110, 58, 105, 101, 116, 102, 58, 112, 97, 114, 97, 109, 115, 58, 120, 109, 108, 58, 110, 115, 58, 114, 101, 115, 111, 117, 114, 99, 101, 45, 108, 105, 115, 116, 115] : Str) ([100, 105, 115, 112, 108, 97, 121, 45, 110, 97, 109, 101] : Str) ([] : Str) ([] : Str) ([(T_api_Node.mk 2 (T_api_Name.mk ([] : Str) ([] : Str)) ([] : List T_api_Attr) ([] : List T_api_Node) a0.Name)] : List T_api_Node)).bind fun (t8 : T_api_Node) => (if (([] : List T_api_Node).length + ([t8] : List T_api_Node).length) * 104 ≤ 140737488355328 then watchbillref16_Made.j0 a0 (([] : List T_api_Node) ++ ([t8] : List T_api_Node)) else none)) else watchbillref16_Made.j0 a0 ([] : List T_api_Node)) else watchbillref16_Made.l1 k (watchbillref16_Made k) k a0.Kind a0.URI a0.Name a0.List_ 0 ([] : Str) ([] : Str) ([] : List T_api_Attr) ([] : List T_api_Node) ([] : Str) ([] : List T_api_Node) 0)))
theorem watchbillref16_Made.ok {k : Nat} {a0 : T_api_Entry} {r : T_api_Node} (H : watchbillref16_Made k a0 = some r) : Vx.Fn Try.prog 69 [(.agg (e_api_Entry a0))] [] (.agg (e_api_Node r)) [] := by
  induction k generalizing a0 r with
  | zero => exact absurd H (by simp [watchbillref16_Made])
  | succ k ih =>
    unfold watchbillref16_Made at H
    refine Vx.Fn.of_okR Try.func69 rfl (Nat.le_of_ble_eq_true rfl) ?_
    refine Ok.seq ?_
    refine Ok.region (σ' := ⟨[(1, (.bref 1 0)), (2, (.bref 2 0))], [(1, (.box .ex (c_api_Entry a0))), (2, (.box .ex [(.v (.int .i64 0)), (S ([] : Str)), (S ([] : Str)), (L 3 e_api_Attr ([] : List T_api_Attr)), (L 6 e_api_Node ([] : List T_api_Node)), (S ([] : Str))]))]⟩) ?_ ?_
    · refine OpsOk.cut1 0 (.agg [(.v (.int .i64 a0.Kind)), (S a0.URI), (S a0.Name), (L 4 e_api_Entry a0.List_)]) (DLe.of_eq (congrArg D.agg (e_api_Entry_c _).symm)) ?_
      refine OpsOk.cons rfl (OpOk.box 1 (cells := [(.v (.int .i64 a0.Kind)), (S a0.URI), (S a0.Name), (L 4 e_api_Entry a0.List_)]) rfl rfl rfl rfl) ?_
      refine OpsOk.cons rfl (OpOk.alloc 2 [none, none, none, some 3, some 6, none] rfl zo27 rfl rfl) ?_
      exact .done (.rf rfl rfl)
    refine Ok.seq ?_
    refine Ok.region (σ' := ⟨[(1, (.bref 1 0)), (2, (.bref 2 0)), (3, (.sref 3))], [(1, (.box .ex (c_api_Entry a0))), (2, (.box .ex [(.v (.int .i64 0)), (S ([] : Str)), (S ([] : Str)), (L 3 e_api_Attr ([] : List T_api_Attr)), (L 6 e_api_Node ([] : List T_api_Node)), (S ([] : Str))])), (3, (.rows true 27 6 (([] : List T_api_Node).map e_api_Node)))]⟩) ?_ ?_
    · refine OpsOk.cons rfl (.nilT 3 27 6 (.inl rfl) rfl rfl) ?_
      exact .done (.rf rfl rfl)
    refine Ok.seq ?_
    refine Ok.seq ?_
    refine Ok.region (σ' := ⟨[(1, (.bref 1 0)), (2, (.bref 2 0)), (3, (.sref 3)), (6, (.v (.int .i64 a0.Kind)))], [(1, (.box .ex (c_api_Entry a0))), (2, (.box .ex [(.v (.int .i64 0)), (S ([] : Str)), (S ([] : Str)), (L 3 e_api_Attr ([] : List T_api_Attr)), (L 6 e_api_Node ([] : List T_api_Node)), (S ([] : Str))])), (3, (.rows true 27 6 (([] : List T_api_Node).map e_api_Node)))]⟩) ?_ ?_
    · refine .cv (VOk.to (VOk.fieldB rfl Try.underlying56 rfl sz3 rfl rfl) rfl) rfl rfl ?_
      refine .cv (VOk.loadB (d := (.v (.int .i64 a0.Kind))) rfl Try.underlying3 rfl rfl rfl rfl) rfl rfl ?_
      exact .done (.rf rfl rfl)
    refine Ok.block ?_
    refine Ok.seq ?_
    refine Ok.region (σ' := ⟨[(1, (.bref 1 0)), (2, (.bref 2 0)), (3, (.sref 3)), (6, (.v (.int .i64 a0.Kind))), (7, (.v (.bool (a0.Kind == 3))))], [(1, (.box .ex (c_api_Entry a0))), (2, (.box .ex [(.v (.int .i64 0)), (S ([] : Str)), (S ([] : Str)), (L 3 e_api_Attr ([] : List T_api_Attr)), (L 6 e_api_Node ([] : List T_api_Node)), (S ([] : Str))])), (3, (.rows true 27 6 (([] : List T_api_Node).map e_api_Node)))]⟩) ?_ ?_
    · refine .cv (VOk.arith (op := .eql) (k := .i64) (a := a0.Kind) (b := 3) rfl rfl rfl rfl) rfl rfl ?_
      refine .cv (VOk.asg (d := (.v (.bool (a0.Kind == 3)))) rfl rfl) rfl rfl ?_
      exact .done (.rf rfl rfl)
    refine Ok.test (b := (a0.Kind == 3)) rfl (fun hb46 => ?_) (fun hb46 => ?_)
    · replace H := ifT H hb46
      refine Ok.seq ?_
      obtain ⟨t1, h2, H⟩ := bindE H
      refine Ok.region (σ' := ⟨[(2, (.bref 2 0))], [(2, (.box .ex (c_api_Node t1)))]⟩) ?_ ?_
      · refine .cv (VOk.to (VOk.fieldB rfl Try.underlying56 rfl sz9 rfl rfl) rfl) rfl rfl ?_
        refine .cv (VOk.loadB (d := (S a0.URI)) rfl Try.underlying9 rfl rfl rfl rfl) rfl rfl ?_
        refine .cg (GOk.call rfl rfl cl40 rfl (Fn.weak (ds := [(S ([117, 114, 110, 58, 105, 101, 116, 102, 58, 112, 97, 114, 97, 109, 115, 58, 120, 109, 108, 58, 110, 115, 58, 114, 101, 115, 111, 117, 114, 99, 101, 45, 108, 105, 115, 116, 115] : Str)), (S ([101, 120, 116, 101, 114, 110, 97, 108] : Str)), (S ([97, 110, 99, 104, 111, 114] : Str)), (S a0.URI), (L 6 e_api_Node ([] : List T_api_Node))]) (watchbillref16_El.ok h2) ⟨.same _, .same _, .same _, .same _, .nil _, trivial⟩) rfl) rfl rfl ?_
        refine OpsOk.cut1 11 (.agg [(.v (.int .i64 t1.Kind)), (S t1.Name.Space), (S t1.Name.Local), (L 3 e_api_Attr t1.Attrs), (L 6 e_api_Node t1.Kids), (S t1.Text)]) (DLe.of_eq (congrArg D.agg (e_api_Node_c _).symm)) ?_
        refine OpsOk.cons rfl (OpOk.to (σ2 := St.put ⟨_, (2, (.box .ex (c_api_Node t1))) :: _⟩ _ .junk) (.storeB rfl sz27 rfl rfl rfl rfl rfl rfl) rfl) ?_
        exact .done (.rf rfl rfl)
      refine Ok.ret ?_
      obtain rfl := Option.some.inj H
      exact ⟨.inl rfl, ⟨_, (.cons (.cell (VOk.to (d' := (.agg (e_api_Node t1))) (.loadBAgg rfl Try.underlying27 rfl sz27 rfl rfl rfl) (congrArg D.agg (e_api_Node_c t1).symm))) .nil), rfl⟩, trivial⟩
    · replace H := ifF H hb46
      refine Ok.seq ?_
      refine Ok.region (σ' := ⟨[(1, (.bref 1 0)), (2, (.bref 2 0)), (3, (.sref 3)), (6, (.v (.int .i64 a0.Kind))), (12, (.v (.bool (a0.Kind == 4))))], [(1, (.box .ex (c_api_Entry a0))), (2, (.box .ex [(.v (.int .i64 0)), (S ([] : Str)), (S ([] : Str)), (L 3 e_api_Attr ([] : List T_api_Attr)), (L 6 e_api_Node ([] : List T_api_Node)), (S ([] : Str))])), (3, (.rows true 27 6 (([] : List T_api_Node).map e_api_Node)))]⟩) ?_ ?_
      · refine .cv (VOk.arith (op := .eql) (k := .i64) (a := a0.Kind) (b := 4) rfl rfl rfl rfl) rfl rfl ?_
        refine .cv (VOk.asg (d := (.v (.bool (a0.Kind == 4)))) rfl rfl) rfl rfl ?_
        exact .done (.rf rfl rfl)
      refine Ok.test (b := (a0.Kind == 4)) rfl (fun hb45 => ?_) (fun hb45 => ?_)
      · replace H := ifT H hb45
        refine Ok.seq ?_
        obtain ⟨t3, h4, H⟩ := bindE H
        refine Ok.region (σ' := ⟨[(2, (.bref 2 0))], [(2, (.box .ex (c_api_Node t3)))]⟩) ?_ ?_
        · refine .cv (VOk.to (VOk.fieldB rfl Try.underlying56 rfl sz9 rfl rfl) rfl) rfl rfl ?_
          refine .cv (VOk.loadB (d := (S a0.URI)) rfl Try.underlying9 rfl rfl rfl rfl) rfl rfl ?_
          refine .cg (GOk.call rfl rfl cl40 rfl (Fn.weak (ds := [(S ([117, 114, 110, 58, 105, 101, 116, 102, 58, 112, 97, 114, 97, 109, 115, 58, 120, 109, 108, 58, 110, 115, 58, 114, 101, 115, 111, 117, 114, 99, 101, 45, 108, 105, 115, 116, 115] : Str)), (S ([101, 110, 116, 114, 121, 45, 114, 101, 102] : Str)), (S ([114, 101, 102] : Str)), (S a0.URI), (L 6 e_api_Node ([] : List T_api_Node))]) (watchbillref16_El.ok h4) ⟨.same _, .same _, .same _, .same _, .nil _, trivial⟩) rfl) rfl rfl ?_
          refine OpsOk.cut1 16 (.agg [(.v (.int .i64 t3.Kind)), (S t3.Name.Space), (S t3.Name.Local), (L 3 e_api_Attr t3.Attrs), (L 6 e_api_Node t3.Kids), (S t3.Text)]) (DLe.of_eq (congrArg D.agg (e_api_Node_c _).symm)) ?_
          refine OpsOk.cons rfl (OpOk.to (σ2 := St.put ⟨_, (2, (.box .ex (c_api_Node t3))) :: _⟩ _ .junk) (.storeB rfl sz27 rfl rfl rfl rfl rfl rfl) rfl) ?_
          exact .done (.rf rfl rfl)
        refine Ok.ret ?_
        obtain rfl := Option.some.inj H
        exact ⟨.inl rfl, ⟨_, (.cons (.cell (VOk.to (d' := (.agg (e_api_Node t3))) (.loadBAgg rfl Try.underlying27 rfl sz27 rfl rfl rfl) (congrArg D.agg (e_api_Node_c t3).symm))) .nil), rfl⟩, trivial⟩
      · replace H := ifF H hb45
        refine Ok.seq ?_
        refine Ok.region (σ' := ⟨[(1, (.bref 1 0)), (2, (.bref 2 0)), (3, (.sref 3)), (17, (.v (.bool (a0.Kind == 1))))], [(1, (.box .ex (c_api_Entry a0))), (2, (.box .ex [(.v (.int .i64 0)), (S ([] : Str)), (S ([] : Str)), (L 3 e_api_Attr ([] : List T_api_Attr)), (L 6 e_api_Node ([] : List T_api_Node)), (S ([] : Str))])), (3, (.rows true 27 6 (([] : List T_api_Node).map e_api_Node)))]⟩) ?_ ?_
        · refine .cv (VOk.arith (op := .eql) (k := .i64) (a := a0.Kind) (b := 1) rfl rfl rfl rfl) rfl rfl ?_
          refine .cv (VOk.asg (d := (.v (.bool (a0.Kind == 1)))) rfl rfl) rfl rfl ?_
          exact .done (.rf rfl rfl)
        refine Ok.test (b := (a0.Kind == 1)) rfl (fun hb44 => ?_) (fun hb44 => ?_)
        · replace H := ifT H hb44
          refine Ok.meet (fun σ => ∃ (y3_5 : List T_api_Node), σ = ⟨[(1, (.bref 1 0)), (2, (.bref 2 0)), (3, (.sref 3))], [(1, (.box .ex (c_api_Entry a0))), (2, (.box .ex [(.v (.int .i64 0)), (S ([] : Str)), (S ([] : Str)), (L 3 e_api_Attr ([] : List T_api_Attr)), (L 6 e_api_Node ([] : List T_api_Node)), (S ([] : Str))])), (3, (.rows true 27 6 (y3_5.map e_api_Node)))]⟩ ∧ watchbillref16_Made.j0 a0 y3_5 = some r) ?_ ?_
          · refine Ok.seq ?_
            refine Ok.region (σ' := ⟨[(1, (.bref 1 0)), (2, (.bref 2 0)), (3, (.sref 3)), (21, (.v (.bool (!(a0.Name == ([] : Str))))))], [(1, (.box .ex (c_api_Entry a0))), (2, (.box .ex [(.v (.int .i64 0)), (S ([] : Str)), (S ([] : Str)), (L 3 e_api_Attr ([] : List T_api_Attr)), (L 6 e_api_Node ([] : List T_api_Node)), (S ([] : Str))])), (3, (.rows true 27 6 (([] : List T_api_Node).map e_api_Node)))]⟩) ?_ ?_
            · refine .cv (VOk.to (VOk.fieldB rfl Try.underlying56 rfl sz9 rfl rfl) rfl) rfl rfl ?_
              refine .cv (VOk.loadB (d := (S a0.Name)) rfl Try.underlying9 rfl rfl rfl rfl) rfl rfl ?_
              refine .cv (VOk.strOp (op := .neq) (a := a0.Name) (b := ([] : Str)) rfl rfl rfl rfl) rfl rfl ?_
              exact .done (.rf rfl rfl)
            refine Ok.test (b := (!(a0.Name == ([] : Str)))) rfl (fun hb11 => ?_) (fun hb11 => ?_)
            · replace H := ifT H hb11
              obtain ⟨t8, h9, H⟩ := bindE H
              obtain ⟨c10, H⟩ := assertE H
              refine Ok.region (σ' := ⟨[(1, (.bref 1 0)), (2, (.bref 2 0)), (3, (.sref 3))], [(1, (.box .ex (c_api_Entry a0))), (2, (.box .ex [(.v (.int .i64 0)), (S ([] : Str)), (S ([] : Str)), (L 3 e_api_Attr ([] : List T_api_Attr)), (L 6 e_api_Node ([] : List T_api_Node)), (S ([] : Str))])), (3, (.rows true 27 6 ((([] : List T_api_Node) ++ ([t8] : List T_api_Node)).map e_api_Node)))]⟩) ?_ ?_
              · refine .cv (VOk.mv (d := (.sref 3)) rfl rfl) rfl rfl ?_
                refine .cv (VOk.to (VOk.fieldB rfl Try.underlying56 rfl sz9 rfl rfl) rfl) rfl rfl ?_
                refine .cv (VOk.loadB (d := (S a0.Name)) rfl Try.underlying9 rfl rfl rfl rfl) rfl rfl ?_
                refine .cv (VOk.to (d' := (.agg (e_api_Node (T_api_Node.mk 2 (T_api_Name.mk ([] : Str) ([] : Str)) ([] : List T_api_Attr) ([] : List T_api_Node) a0.Name)))) (.build [none, none, none, some 3, some 6, none] [(0, 1), (1, 2), (3, 1), (4, 1), (5, 1)] rfl Try.underlying27 (fa27 Try.underlying27) zo27 rfl rfl) (congrArg D.agg (e_api_Node_c (T_api_Node.mk 2 (T_api_Name.mk ([] : Str) ([] : Str)) ([] : List T_api_Attr) ([] : List T_api_Node) a0.Name)).symm)) rfl rfl ?_
                refine .cg (GOk.to (d' := (L 6 e_api_Node ([(T_api_Node.mk 2 (T_api_Name.mk ([] : Str) ([] : Str)) ([] : List T_api_Attr) ([] : List T_api_Node) a0.Name)] : List T_api_Node))) (GOk.lit rfl Try.underlying25 sz27 zs27 rfl rfl rfl rfl) rfl) rfl rfl ?_
                refine .cg (GOk.call rfl rfl cl40 rfl (watchbillref16_El.ok h9) rfl) rfl rfl ?_
                refine .cg (GOk.to (d' := (L 6 e_api_Node ([t8] : List T_api_Node))) (GOk.lit rfl Try.underlying25 sz27 zs27 rfl rfl rfl rfl) rfl) rfl rfl ?_
                refine OpsOk.cons rfl (OpOk.appendL (e := e_api_Node) (xs := ([] : List T_api_Node)) (ys := ([t8] : List T_api_Node)) rfl Try.underlying25 elt27 rfl rfl rfl c10 rfl) ?_
                refine .cv (VOk.asg (d := (.sref 3)) rfl rfl) rfl rfl ?_
                exact .done (.rf rfl rfl)
              exact ⟨(([] : List T_api_Node) ++ ([t8] : List T_api_Node)), rfl, H⟩
            · replace H := ifF H hb11
              refine Ok.le (σ' := ⟨[(1, (.bref 1 0)), (2, (.bref 2 0)), (3, (.sref 3))], [(1, (.box .ex (c_api_Entry a0))), (2, (.box .ex [(.v (.int .i64 0)), (S ([] : Str)), (S ([] : Str)), (L 3 e_api_Attr ([] : List T_api_Attr)), (L 6 e_api_Node ([] : List T_api_Node)), (S ([] : Str))])), (3, (.rows true 27 6 (([] : List T_api_Node).map e_api_Node)))]⟩) (.rf rfl rfl) ?_
              refine Ok.skip ?_
              exact ⟨([] : List T_api_Node), rfl, H⟩
          · rintro σ ⟨y3_5, rfl, H⟩
            unfold watchbillref16_Made.j0 at H
            refine Ok.seq ?_
            obtain ⟨t6, h7, H⟩ := bindE H
            refine Ok.frzL 3 (e := e_api_Node) (xs := y3_5) rfl ?_
            refine Ok.region (σ' := ⟨[(2, (.bref 2 0))], [(2, (.box .ex (c_api_Node t6)))]⟩) ?_ ?_
            · refine .cv (VOk.to (VOk.fieldB rfl Try.underlying56 rfl sz9 rfl rfl) rfl) rfl rfl ?_
              refine .cv (VOk.loadB (d := (S a0.URI)) rfl Try.underlying9 rfl rfl rfl rfl) rfl rfl ?_
              refine .cv (VOk.mv (d := (L 6 e_api_Node y3_5)) rfl rfl) rfl rfl ?_
              refine .cg (GOk.call rfl rfl cl40 rfl (watchbillref16_El.ok h7) rfl) rfl rfl ?_
              refine OpsOk.cut1 33 (.agg [(.v (.int .i64 t6.Kind)), (S t6.Name.Space), (S t6.Name.Local), (L 3 e_api_Attr t6.Attrs), (L 6 e_api_Node t6.Kids), (S t6.Text)]) (DLe.of_eq (congrArg D.agg (e_api_Node_c _).symm)) ?_
              refine OpsOk.cons rfl (OpOk.to (σ2 := St.put ⟨_, (2, (.box .ex (c_api_Node t6))) :: _⟩ _ .junk) (.storeB rfl sz27 rfl rfl rfl rfl rfl rfl) rfl) ?_
              exact .done (.rf rfl rfl)
            refine Ok.ret ?_
            obtain rfl := Option.some.inj H
            exact ⟨.inl rfl, ⟨_, (.cons (.cell (VOk.to (d' := (.agg (e_api_Node t6))) (.loadBAgg rfl Try.underlying27 rfl sz27 rfl rfl rfl) (congrArg D.agg (e_api_Node_c t6).symm))) .nil), rfl⟩, trivial⟩
        · replace H := ifF H hb44
          refine Ok.skip ?_
          refine Ok.seq ?_
          refine Ok.seq ?_
          refine Ok.region (σ' := ⟨[(1, (.bref 1 0)), (2, (.bref 2 0)), (3, (.sref 3)), (4, (.v (.int .i64 0)))], [(1, (.box .ex (c_api_Entry a0))), (2, (.box .ex [(.v (.int .i64 0)), (S ([] : Str)), (S ([] : Str)), (L 3 e_api_Attr ([] : List T_api_Attr)), (L 6 e_api_Node ([] : List T_api_Node)), (S ([] : Str))])), (3, (.rows true 27 6 (([] : List T_api_Node).map e_api_Node)))]⟩) ?_ ?_
          · refine .cv (VOk.asg (d := (.v (.int .i64 0))) rfl rfl) rfl rfl ?_
            exact .done (.rf rfl rfl)
          refine Ok.block ?_
          refine Ok.le (σ' := ⟨[(1, (.bref 1 0)), (2, (.bref 2 0)), (3, (.sref 3)), (4, (.v (.int .i64 0)))], [(1, (.box .ex (c_api_Entry a0))), (2, (.box .ex [(.v (.int .i64 0)), (S ([] : Str)), (S ([] : Str)), (L 3 e_api_Attr ([] : List T_api_Attr)), (L 6 e_api_Node ([] : List T_api_Node)), (S ([] : Str))])), (3, (.rows true 27 6 (([] : List T_api_Node).map e_api_Node)))]⟩) (.rf rfl rfl) ?_
          refine Ok.loop (fun m36 σ => ∃ (y1_0_13 : Int) (y1_1_14 : Str) (y1_2_15 : Str) (y1_3_16 : List T_api_Entry) (y2_0_17 : Int) (y2_1_18 : Str) (y2_2_19 : Str) (y2_3_20 : List T_api_Attr) (y2_4_21 : List T_api_Node) (y2_5_22 : Str) (y3_23 : List T_api_Node) (x4_12 : Int), σ = ⟨[(1, (.bref 1 0)), (2, (.bref 2 0)), (3, (.sref 3)), (4, (.v (.int .i64 x4_12)))], [(1, (.box .ex [(.v (.int .i64 y1_0_13)), (S y1_1_14), (S y1_2_15), (L 4 e_api_Entry y1_3_16)])), (2, (.box .ex [(.v (.int .i64 y2_0_17)), (S y2_1_18), (S y2_2_19), (L 3 e_api_Attr y2_3_20), (L 6 e_api_Node y2_4_21), (S y2_5_22)])), (3, (.rows true 27 6 (y3_23.map e_api_Node)))]⟩ ∧ watchbillref16_Made.l1 k (watchbillref16_Made k) m36 y1_0_13 y1_1_14 y1_2_15 y1_3_16 y2_0_17 y2_1_18 y2_2_19 y2_3_20 y2_4_21 y2_5_22 y3_23 x4_12 = some r) k ⟨a0.Kind, a0.URI, a0.Name, a0.List_, 0, ([] : Str), ([] : Str), ([] : List T_api_Attr), ([] : List T_api_Node), ([] : Str), ([] : List T_api_Node), 0, rfl, H⟩ ?_
          rintro m36 σ ⟨y1_0_13, y1_1_14, y1_2_15, y1_3_16, y2_0_17, y2_1_18, y2_2_19, y2_3_20, y2_4_21, y2_5_22, y3_23, x4_12, rfl, H⟩
          cases m36 with
          | zero => exact absurd H (by simp [watchbillref16_Made.l1])
          | succ m36 =>
            unfold watchbillref16_Made.l1 at H
            refine Ok.seq ?_
            refine Ok.seq ?_
            refine Ok.region (σ' := ⟨[(1, (.bref 1 0)), (2, (.bref 2 0)), (3, (.sref 3)), (4, (.v (.int .i64 x4_12))), (38, (.v (.bool (decide (x4_12 < (y1_3_16.length : Int))))))], [(1, (.box .ex [(.v (.int .i64 y1_0_13)), (S y1_1_14), (S y1_2_15), (L 4 e_api_Entry y1_3_16)])), (2, (.box .ex [(.v (.int .i64 y2_0_17)), (S y2_1_18), (S y2_2_19), (L 3 e_api_Attr y2_3_20), (L 6 e_api_Node y2_4_21), (S y2_5_22)])), (3, (.rows true 27 6 (y3_23.map e_api_Node)))]⟩) ?_ ?_
            · refine .cv (VOk.mv (d := (.v (.int .i64 x4_12))) rfl rfl) rfl rfl ?_
              refine .cv (VOk.to (VOk.fieldB rfl Try.underlying56 rfl sz36 rfl rfl) rfl) rfl rfl ?_
              refine .cv (VOk.loadB (d := (L 4 e_api_Entry y1_3_16)) rfl Try.underlying36 rfl rfl rfl rfl) rfl rfl ?_
              refine .cv (VOk.lenL (e := e_api_Entry) (xs := y1_3_16) rfl Try.underlying36 rfl) rfl rfl ?_
              refine .cv (VOk.arith (op := .lss) (k := .i64) (a := x4_12) (b := (y1_3_16.length : Int)) rfl rfl rfl rfl) rfl rfl ?_
              exact .done (.rf rfl rfl)
            refine Ok.test (b := (decide (x4_12 < (y1_3_16.length : Int)))) rfl (fun hb43 => ?_) (fun hb43 => ?_)
            · replace H := ifT H hb43
              refine Ok.skip ?_
              refine Ok.seq ?_
              refine Ok.block ?_
              obtain ⟨c37, H⟩ := assertE H
              obtain ⟨t38, h39, H⟩ := bindE H
              obtain ⟨c40, H⟩ := assertE H
              refine Ok.region (σ' := ⟨[(1, (.bref 1 0)), (2, (.bref 2 0)), (3, (.sref 3)), (4, (.v (.int .i64 x4_12)))], [(1, (.box .ex [(.v (.int .i64 y1_0_13)), (S y1_1_14), (S y1_2_15), (L 4 e_api_Entry y1_3_16)])), (2, (.box .ex [(.v (.int .i64 y2_0_17)), (S y2_1_18), (S y2_2_19), (L 3 e_api_Attr y2_3_20), (L 6 e_api_Node y2_4_21), (S y2_5_22)])), (3, (.rows true 27 6 ((y3_23 ++ ([t38] : List T_api_Node)).map e_api_Node)))]⟩) ?_ ?_
              · refine .cv (VOk.mv (d := (.sref 3)) rfl rfl) rfl rfl ?_
                refine .cv (VOk.to (VOk.fieldB rfl Try.underlying56 rfl sz36 rfl rfl) rfl) rfl rfl ?_
                refine .cv (VOk.loadB (d := (L 4 e_api_Entry y1_3_16)) rfl Try.underlying36 rfl rfl rfl rfl) rfl rfl ?_
                refine .cv (VOk.mv (d := (.v (.int .i64 x4_12))) rfl rfl) rfl rfl ?_
                refine .cv (VOk.indexL (sz := 4) (e := e_api_Entry) (xs := y1_3_16) (i := x4_12) rfl Try.underlying36 sz56 rfl rfl c37) rfl rfl ?_
                refine .cv (VOk.to (d' := (.agg (e_api_Entry (rd y1_3_16 x4_12)))) (.loadFpAgg rfl Try.underlying56 rfl sz56 rfl rfl) rfl) rfl rfl ?_
                refine .cg (GOk.call rfl rfl cl69 rfl (@ih _ _ h39) rfl) rfl rfl ?_
                refine .cg (GOk.to (d' := (L 6 e_api_Node ([t38] : List T_api_Node))) (GOk.lit rfl Try.underlying25 sz27 zs27 rfl rfl rfl rfl) rfl) rfl rfl ?_
                refine OpsOk.cons rfl (OpOk.appendL (e := e_api_Node) (xs := y3_23) (ys := ([t38] : List T_api_Node)) rfl Try.underlying25 elt27 rfl rfl rfl c40 rfl) ?_
                refine .cv (VOk.asg (d := (.sref 3)) rfl rfl) rfl rfl ?_
                exact .done (.rf rfl rfl)
              refine Ok.region (σ' := ⟨[(1, (.bref 1 0)), (2, (.bref 2 0)), (3, (.sref 3)), (4, (.v (.int .i64 (IntKind.i64.wrap (x4_12 + 1)))))], [(1, (.box .ex [(.v (.int .i64 y1_0_13)), (S y1_1_14), (S y1_2_15), (L 4 e_api_Entry y1_3_16)])), (2, (.box .ex [(.v (.int .i64 y2_0_17)), (S y2_1_18), (S y2_2_19), (L 3 e_api_Attr y2_3_20), (L 6 e_api_Node y2_4_21), (S y2_5_22)])), (3, (.rows true 27 6 ((y3_23 ++ ([t38] : List T_api_Node)).map e_api_Node)))]⟩) ?_ ?_
              · refine .cv (VOk.mv (d := (.v (.int .i64 x4_12))) rfl rfl) rfl rfl ?_
                refine .cv (VOk.arith (op := .add) (k := .i64) (a := x4_12) (b := 1) rfl rfl rfl rfl) rfl rfl ?_
                refine .cv (VOk.asg (d := (.v (.int .i64 (IntKind.i64.wrap (x4_12 + 1))))) rfl rfl) rfl rfl ?_
                exact .done (.rf rfl rfl)
              exact ⟨m36, Nat.lt_succ_self m36, y1_0_13, y1_1_14, y1_2_15, y1_3_16, y2_0_17, y2_1_18, y2_2_19, y2_3_20, y2_4_21, y2_5_22, (y3_23 ++ ([t38] : List T_api_Node)), (IntKind.i64.wrap (x4_12 + 1)), rfl, H⟩
            · replace H := ifF H hb43
              refine Ok.exit ?_
              refine Ok.seq ?_
              obtain ⟨t41, h42, H⟩ := bindE H
              refine Ok.frzL 3 (e := e_api_Node) (xs := y3_23) rfl ?_
              refine Ok.region (σ' := ⟨[(2, (.bref 2 0))], [(2, (.box .ex (c_api_Node t41)))]⟩) ?_ ?_
              · refine .cv (VOk.to (VOk.fieldB rfl Try.underlying56 rfl sz9 rfl rfl) rfl) rfl rfl ?_
                refine .cv (VOk.loadB (d := (S y1_2_15)) rfl Try.underlying9 rfl rfl rfl rfl) rfl rfl ?_
                refine .cv (VOk.mv (d := (L 6 e_api_Node y3_23)) rfl rfl) rfl rfl ?_
                refine .cg (GOk.call rfl rfl cl40 rfl (watchbillref16_El.ok h42) rfl) rfl rfl ?_
                refine OpsOk.cut1 53 (.agg [(.v (.int .i64 t41.Kind)), (S t41.Name.Space), (S t41.Name.Local), (L 3 e_api_Attr t41.Attrs), (L 6 e_api_Node t41.Kids), (S t41.Text)]) (DLe.of_eq (congrArg D.agg (e_api_Node_c _).symm)) ?_
                refine OpsOk.cons rfl (OpOk.to (σ2 := St.put ⟨_, (2, (.box .ex (c_api_Node t41))) :: _⟩ _ .junk) (.storeB rfl sz27 rfl rfl rfl rfl rfl rfl) rfl) ?_
                exact .done (.rf rfl rfl)
              refine Ok.ret ?_
              obtain rfl := Option.some.inj H
              exact ⟨.inl rfl, ⟨_, (.cons (.cell (VOk.to (d' := (.agg (e_api_Node t41))) (.loadBAgg rfl Try.underlying27 rfl sz27 rfl rfl rfl) (congrArg D.agg (e_api_Node_c t41).symm))) .nil), rfl⟩, trivial⟩

/-! watchbill/watchbillref17.made: function 39 -/
def watchbillref17_made.j0 (y1_0_4 : Str) (y1_1_5 : List T_api_Entry) (y1_2_6 : Bool) (y1_3_7 : Str) (y1_4_8 : List Str) (y2_0_9 : Int) (y2_1_10 : Str) (y2_2_11 : Str) (y2_3_12 : List T_api_Attr) (y2_4_13 : List T_api_Node) (y2_5_14 : Str) (y9_15 : List T_api_Node) : Option T_api_Node := ((watchbillref16_El ([117, 114, 110, 58, 105, 101, 116, 102, 58, 112, 97, 114, 97, 109, 115, 58, 120, 109, 108, 58, 110, 115, 58, 114, 108, 115, 45, 115, 101, 114, 118, 105, 99, 101, 115] : Str) ([115, 101, 114, 118, 105, 99, 101] : Str) ([117, 114, 105] : Str) y1_0_4 y9_15).bind fun (t16 : T_api_Node) => some t16)
def watchbillref17_made.l1 (k : Nat) : Nat → Str → List T_api_Entry → Bool → Str → List Str → Int → Str → Str → List T_api_Attr → List T_api_Node → Str → List T_api_Node → List T_api_Node → Int → Option T_api_Node
  | 0, _, _, _, _, _, _, _, _, _, _, _, _, _, _ => none
  | m46 + 1, y1_0_19, y1_1_20, y1_2_21, y1_3_22, y1_4_23, y2_0_24, y2_1_25, y2_2_26, y2_3_27, y2_4_28, y2_5_29, y4_30, y9_31, x5_18 => (if (decide (x5_18 < (y1_4_23.length : Int))) = true then (if (0 : Int) ≤ x5_18 ∧ x5_18 < (y1_4_23.length : Int) then ((watchbillref17_words ([112, 97, 99, 107, 97, 103, 101] : Str) (rd y1_4_23 x5_18)).bind fun (t48 : T_api_Node) => (if (y4_30.length + ([t48] : List T_api_Node).length) * 104 ≤ 140737488355328 then watchbillref17_made.l1 k m46 y1_0_19 y1_1_20 y1_2_21 y1_3_22 y1_4_23 y2_0_24 y2_1_25 y2_2_26 y2_3_27 y2_4_28 y2_5_29 (y4_30 ++ ([t48] : List T_api_Node)) y9_31 (IntKind.i64.wrap (x5_18 + 1)) else none)) else none) else ((watchbillref16_El ([117, 114, 110, 58, 105, 101, 116, 102, 58, 112, 97, 114, 97, 109, 115, 58, 120, 109, 108, 58, 110, 115, 58, 114, 108, 115, 45, 115, 101, 114, 118, 105, 99, 101, 115] : Str) ([112, 97, 99, 107, 97, 103, 101, 115] : Str) ([] : Str) ([] : Str) y4_30).bind fun (t51 : T_api_Node) => (if (y9_31.length + ([t51] : List T_api_Node).length) * 104 ≤ 140737488355328 then watchbillref17_made.j0 y1_0_19 y1_1_20 y1_2_21 y1_3_22 y1_4_23 y2_0_24 y2_1_25 y2_2_26 y2_3_27 y2_4_28 y2_5_29 (y9_31 ++ ([t51] : List T_api_Node)) else none)))
def watchbillref17_made.j2 (k : Nat) (a0 : T_api_Service) (y9_3 : List T_api_Node) : Option T_api_Node := (if (decide ((a0.Packages.length : Int) > 0)) = true then watchbillref17_made.l1 k k a0.URI a0.List_ a0.Inline a0.Ref a0.Packages 0 ([] : Str) ([] : Str) ([] : List T_api_Attr) ([] : List T_api_Node) ([] : Str) ([] : List T_api_Node) y9_3 0 else watchbillref17_made.j0 a0.URI a0.List_ a0.Inline a0.Ref a0.Packages 0 ([] : Str) ([] : Str) ([] : List T_api_Attr) ([] : List T_api_Node) ([] : Str) y9_3)
def watchbillref17_made (k : Nat) (a0 : T_api_Service) : Option T_api_Node := ((watchbillref17_words ([114, 101, 115, 111, 117, 114, 99, 101, 45, 108, 105, 115, 116] : Str) a0.Ref).bind fun (t1 : T_api_Node) => (if a0.Inline = true then ((watchbillref16_Made k (T_api_Entry.mk 2 ([] : Str) ([] : Str) a0.List_)).bind fun (t56 : T_api_Node) => (if (0 : Int) ≤ 0 ∧ 0 < (([t1] : List T_api_Node).length : Int) then watchbillref17_made.j2 k a0 (([t1] : List T_api_Node).set (Int.toNat 0) t56) else none)) else watchbillref17_made.j2 k a0 ([t1] : List T_api_Node)))
theorem watchbillref17_made.ok {k : Nat} {a0 : T_api_Service} {r : T_api_Node} (H : watchbillref17_made k a0 = some r) : Vx.Fn Try.prog 39 [(.agg (e_api_Service a0))] [] (.agg (e_api_Node r)) [] := by
  unfold watchbillref17_made at H
  refine Vx.Fn.of_okR Try.func39 rfl (Nat.le_of_ble_eq_true rfl) ?_
  refine Ok.seq ?_
  refine Ok.region (σ' := ⟨[(1, (.bref 1 0)), (2, (.bref 2 0))], [(1, (.box .ex (c_api_Service a0))), (2, (.box .ex [(.v (.int .i64 0)), (S ([] : Str)), (S ([] : Str)), (L 3 e_api_Attr ([] : List T_api_Attr)), (L 6 e_api_Node ([] : List T_api_Node)), (S ([] : Str))]))]⟩) ?_ ?_
  · refine OpsOk.cons rfl (OpOk.box 1 (cells := [(S a0.URI), (L 4 e_api_Entry a0.List_), (.v (.bool a0.Inline)), (S a0.Ref), (L 1 eS a0.Packages)]) rfl rfl rfl rfl) ?_
    refine OpsOk.cons rfl (OpOk.alloc 2 [none, none, none, some 3, some 6, none] rfl zo27 rfl rfl) ?_
    exact .done (.rf rfl rfl)
  refine Ok.seq ?_
  obtain ⟨t1, h2, H⟩ := bindE H
  refine Ok.region (σ' := ⟨[(1, (.bref 1 0)), (2, (.bref 2 0)), (3, (.sref 9))], [(1, (.box .ex (c_api_Service a0))), (2, (.box .ex [(.v (.int .i64 0)), (S ([] : Str)), (S ([] : Str)), (L 3 e_api_Attr ([] : List T_api_Attr)), (L 6 e_api_Node ([] : List T_api_Node)), (S ([] : Str))])), (9, (.rows true 27 6 (([t1] : List T_api_Node).map e_api_Node)))]⟩) ?_ ?_
  · refine .cv (VOk.to (VOk.fieldB rfl Try.underlying39 rfl sz9 rfl rfl) rfl) rfl rfl ?_
    refine .cv (VOk.loadB (d := (S a0.Ref)) rfl Try.underlying9 rfl rfl rfl rfl) rfl rfl ?_
    refine .cg (GOk.call rfl rfl cl68 rfl (watchbillref17_words.ok h2) rfl) rfl rfl ?_
    refine OpsOk.cons rfl (OpOk.litT 9 rfl rfl Try.underlying25 sz27 zs27 rfl (rows := ([t1] : List T_api_Node).map e_api_Node) rfl rfl rfl rfl) ?_
    refine .cv (VOk.asg (d := (.sref 9)) rfl rfl) rfl rfl ?_
    exact .done (.rf rfl rfl)
  refine Ok.meet (fun σ => ∃ (y9_3 : List T_api_Node), σ = ⟨[(1, (.bref 1 0)), (2, (.bref 2 0)), (3, (.sref 9))], [(1, (.box .ex (c_api_Service a0))), (2, (.box .ex [(.v (.int .i64 0)), (S ([] : Str)), (S ([] : Str)), (L 3 e_api_Attr ([] : List T_api_Attr)), (L 6 e_api_Node ([] : List T_api_Node)), (S ([] : Str))])), (9, (.rows true 27 6 (y9_3.map e_api_Node)))]⟩ ∧ watchbillref17_made.j2 k a0 y9_3 = some r) ?_ ?_
  · refine Ok.seq ?_
    refine Ok.region (σ' := ⟨[(1, (.bref 1 0)), (2, (.bref 2 0)), (3, (.sref 9)), (11, (.v (.bool a0.Inline)))], [(1, (.box .ex (c_api_Service a0))), (2, (.box .ex [(.v (.int .i64 0)), (S ([] : Str)), (S ([] : Str)), (L 3 e_api_Attr ([] : List T_api_Attr)), (L 6 e_api_Node ([] : List T_api_Node)), (S ([] : Str))])), (9, (.rows true 27 6 (([t1] : List T_api_Node).map e_api_Node)))]⟩) ?_ ?_
    · refine .cv (VOk.to (VOk.fieldB rfl Try.underlying39 rfl sz4 rfl rfl) rfl) rfl rfl ?_
      refine .cv (VOk.loadB (d := (.v (.bool a0.Inline))) rfl Try.underlying4 rfl rfl rfl rfl) rfl rfl ?_
      exact .done (.rf rfl rfl)
    refine Ok.test (b := a0.Inline) rfl (fun hb59 => ?_) (fun hb59 => ?_)
    · replace H := ifT H hb59
      obtain ⟨t56, h57, H⟩ := bindE H
      obtain ⟨c58, H⟩ := assertE H
      refine Ok.region (σ' := ⟨[(1, (.bref 1 0)), (2, (.bref 2 0)), (3, (.sref 9))], [(1, (.box .ex (c_api_Service a0))), (2, (.box .ex [(.v (.int .i64 0)), (S ([] : Str)), (S ([] : Str)), (L 3 e_api_Attr ([] : List T_api_Attr)), (L 6 e_api_Node ([] : List T_api_Node)), (S ([] : Str))])), (9, (.rows true 27 6 ((([t1] : List T_api_Node).set (Int.toNat 0) t56).map e_api_Node)))]⟩) ?_ ?_
      · refine .cv (VOk.mv (d := (.sref 9)) rfl rfl) rfl rfl ?_
        refine .cv (VOk.to (VOk.fieldB rfl Try.underlying39 rfl sz36 rfl rfl) rfl) rfl rfl ?_
        refine .cv (VOk.loadB (d := (L 4 e_api_Entry a0.List_)) rfl Try.underlying36 rfl rfl rfl rfl) rfl rfl ?_
        refine .cv (VOk.to (d' := (.agg (e_api_Entry (T_api_Entry.mk 2 ([] : Str) ([] : Str) a0.List_)))) (.build [none, none, none, some 4] [(0, 1), (1, 1), (2, 1), (3, 1)] rfl Try.underlying56 (fa56 Try.underlying56) zo56 rfl rfl) (congrArg D.agg (e_api_Entry_c (T_api_Entry.mk 2 ([] : Str) ([] : Str) a0.List_)).symm)) rfl rfl ?_
        refine .cg (GOk.call rfl rfl cl69 rfl (watchbillref16_Made.ok h57) rfl) rfl rfl ?_
        refine .cv (VOk.indexTL (e := e_api_Node) (xs := ([t1] : List T_api_Node)) (i := 0) rfl Try.underlying25 sz27 rfl rfl rfl c58) rfl rfl ?_
        refine OpsOk.cons rfl (OpOk.storeEL (e := e_api_Node) (xs := ([t1] : List T_api_Node)) (i := 0) (y := t56) rfl sz27 (.same _) rfl c58 (.same _) rfl rfl rfl rfl rfl rfl) ?_
        exact .done (.rf rfl rfl)
      exact ⟨(([t1] : List T_api_Node).set (Int.toNat 0) t56), rfl, H⟩
    · replace H := ifF H hb59
      refine Ok.le (σ' := ⟨[(1, (.bref 1 0)), (2, (.bref 2 0)), (3, (.sref 9))], [(1, (.box .ex (c_api_Service a0))), (2, (.box .ex [(.v (.int .i64 0)), (S ([] : Str)), (S ([] : Str)), (L 3 e_api_Attr ([] : List T_api_Attr)), (L 6 e_api_Node ([] : List T_api_Node)), (S ([] : Str))])), (9, (.rows true 27 6 (([t1] : List T_api_Node).map e_api_Node)))]⟩) (.rf rfl rfl) ?_
      refine Ok.skip ?_
      exact ⟨([t1] : List T_api_Node), rfl, H⟩
  · rintro σ ⟨y9_3, rfl, H⟩
    unfold watchbillref17_made.j2 at H
    refine Ok.meet (fun σ => ∃ (y1_0_4 : Str) (y1_1_5 : List T_api_Entry) (y1_2_6 : Bool) (y1_3_7 : Str) (y1_4_8 : List Str) (y2_0_9 : Int) (y2_1_10 : Str) (y2_2_11 : Str) (y2_3_12 : List T_api_Attr) (y2_4_13 : List T_api_Node) (y2_5_14 : Str) (y9_15 : List T_api_Node), σ = ⟨[(1, (.bref 1 0)), (2, (.bref 2 0)), (3, (.sref 9))], [(1, (.box .ex [(S y1_0_4), (L 4 e_api_Entry y1_1_5), (.v (.bool y1_2_6)), (S y1_3_7), (L 1 eS y1_4_8)])), (2, (.box .ex [(.v (.int .i64 y2_0_9)), (S y2_1_10), (S y2_2_11), (L 3 e_api_Attr y2_3_12), (L 6 e_api_Node y2_4_13), (S y2_5_14)])), (9, (.rows true 27 6 (y9_15.map e_api_Node)))]⟩ ∧ watchbillref17_made.j0 y1_0_4 y1_1_5 y1_2_6 y1_3_7 y1_4_8 y2_0_9 y2_1_10 y2_2_11 y2_3_12 y2_4_13 y2_5_14 y9_15 = some r) ?_ ?_
    · refine Ok.seq ?_
      refine Ok.region (σ' := ⟨[(1, (.bref 1 0)), (2, (.bref 2 0)), (3, (.sref 9)), (21, (.v (.bool (decide ((a0.Packages.length : Int) > 0)))))], [(1, (.box .ex (c_api_Service a0))), (2, (.box .ex [(.v (.int .i64 0)), (S ([] : Str)), (S ([] : Str)), (L 3 e_api_Attr ([] : List T_api_Attr)), (L 6 e_api_Node ([] : List T_api_Node)), (S ([] : Str))])), (9, (.rows true 27 6 (y9_3.map e_api_Node)))]⟩) ?_ ?_
      · refine .cv (VOk.to (VOk.fieldB rfl Try.underlying39 rfl sz37 rfl rfl) rfl) rfl rfl ?_
        refine .cv (VOk.loadB (d := (L 1 eS a0.Packages)) rfl Try.underlying37 rfl rfl rfl rfl) rfl rfl ?_
        refine .cv (VOk.lenL (e := eS) (xs := a0.Packages) rfl Try.underlying37 rfl) rfl rfl ?_
        refine .cv (VOk.arith (op := .gtr) (k := .i64) (a := (a0.Packages.length : Int)) (b := 0) rfl rfl rfl rfl) rfl rfl ?_
        exact .done (.rf rfl rfl)
      refine Ok.test (b := (decide ((a0.Packages.length : Int) > 0))) rfl (fun hb55 => ?_) (fun hb55 => ?_)
      · replace H := ifT H hb55
        refine Ok.seq ?_
        refine Ok.region (σ' := ⟨[(1, (.bref 1 0)), (2, (.bref 2 0)), (3, (.sref 9)), (4, (.sref 4))], [(1, (.box .ex (c_api_Service a0))), (2, (.box .ex [(.v (.int .i64 0)), (S ([] : Str)), (S ([] : Str)), (L 3 e_api_Attr ([] : List T_api_Attr)), (L 6 e_api_Node ([] : List T_api_Node)), (S ([] : Str))])), (4, (.rows true 27 6 (([] : List T_api_Node).map e_api_Node))), (9, (.rows true 27 6 (y9_3.map e_api_Node)))]⟩) ?_ ?_
        · refine OpsOk.cons rfl (.nilT 4 27 6 (.inl rfl) rfl rfl) ?_
          exact .done (.rf rfl rfl)
        refine Ok.seq ?_
        refine Ok.seq ?_
        refine Ok.region (σ' := ⟨[(1, (.bref 1 0)), (2, (.bref 2 0)), (3, (.sref 9)), (4, (.sref 4)), (5, (.v (.int .i64 0)))], [(1, (.box .ex (c_api_Service a0))), (2, (.box .ex [(.v (.int .i64 0)), (S ([] : Str)), (S ([] : Str)), (L 3 e_api_Attr ([] : List T_api_Attr)), (L 6 e_api_Node ([] : List T_api_Node)), (S ([] : Str))])), (4, (.rows true 27 6 (([] : List T_api_Node).map e_api_Node))), (9, (.rows true 27 6 (y9_3.map e_api_Node)))]⟩) ?_ ?_
        · refine .cv (VOk.asg (d := (.v (.int .i64 0))) rfl rfl) rfl rfl ?_
          exact .done (.rf rfl rfl)
        refine Ok.block ?_
        refine Ok.le (σ' := ⟨[(1, (.bref 1 0)), (2, (.bref 2 0)), (3, (.sref 9)), (4, (.sref 4)), (5, (.v (.int .i64 0)))], [(1, (.box .ex (c_api_Service a0))), (2, (.box .ex [(.v (.int .i64 0)), (S ([] : Str)), (S ([] : Str)), (L 3 e_api_Attr ([] : List T_api_Attr)), (L 6 e_api_Node ([] : List T_api_Node)), (S ([] : Str))])), (4, (.rows true 27 6 (([] : List T_api_Node).map e_api_Node))), (9, (.rows true 27 6 (y9_3.map e_api_Node)))]⟩) (.rf rfl rfl) ?_
        refine Ok.loop (fun m46 σ => ∃ (y1_0_19 : Str) (y1_1_20 : List T_api_Entry) (y1_2_21 : Bool) (y1_3_22 : Str) (y1_4_23 : List Str) (y2_0_24 : Int) (y2_1_25 : Str) (y2_2_26 : Str) (y2_3_27 : List T_api_Attr) (y2_4_28 : List T_api_Node) (y2_5_29 : Str) (y4_30 : List T_api_Node) (y9_31 : List T_api_Node) (x5_18 : Int), σ = ⟨[(1, (.bref 1 0)), (2, (.bref 2 0)), (3, (.sref 9)), (4, (.sref 4)), (5, (.v (.int .i64 x5_18)))], [(1, (.box .ex [(S y1_0_19), (L 4 e_api_Entry y1_1_20), (.v (.bool y1_2_21)), (S y1_3_22), (L 1 eS y1_4_23)])), (2, (.box .ex [(.v (.int .i64 y2_0_24)), (S y2_1_25), (S y2_2_26), (L 3 e_api_Attr y2_3_27), (L 6 e_api_Node y2_4_28), (S y2_5_29)])), (4, (.rows true 27 6 (y4_30.map e_api_Node))), (9, (.rows true 27 6 (y9_31.map e_api_Node)))]⟩ ∧ watchbillref17_made.l1 k m46 y1_0_19 y1_1_20 y1_2_21 y1_3_22 y1_4_23 y2_0_24 y2_1_25 y2_2_26 y2_3_27 y2_4_28 y2_5_29 y4_30 y9_31 x5_18 = some r) k ⟨a0.URI, a0.List_, a0.Inline, a0.Ref, a0.Packages, 0, ([] : Str), ([] : Str), ([] : List T_api_Attr), ([] : List T_api_Node), ([] : Str), ([] : List T_api_Node), y9_3, 0, rfl, H⟩ ?_
        rintro m46 σ ⟨y1_0_19, y1_1_20, y1_2_21, y1_3_22, y1_4_23, y2_0_24, y2_1_25, y2_2_26, y2_3_27, y2_4_28, y2_5_29, y4_30, y9_31, x5_18, rfl, H⟩
        cases m46 with
        | zero => exact absurd H (by simp [watchbillref17_made.l1])
        | succ m46 =>
          unfold watchbillref17_made.l1 at H
          refine Ok.seq ?_
          refine Ok.seq ?_
          refine Ok.region (σ' := ⟨[(1, (.bref 1 0)), (2, (.bref 2 0)), (3, (.sref 9)), (4, (.sref 4)), (5, (.v (.int .i64 x5_18))), (26, (.v (.bool (decide (x5_18 < (y1_4_23.length : Int))))))], [(1, (.box .ex [(S y1_0_19), (L 4 e_api_Entry y1_1_20), (.v (.bool y1_2_21)), (S y1_3_22), (L 1 eS y1_4_23)])), (2, (.box .ex [(.v (.int .i64 y2_0_24)), (S y2_1_25), (S y2_2_26), (L 3 e_api_Attr y2_3_27), (L 6 e_api_Node y2_4_28), (S y2_5_29)])), (4, (.rows true 27 6 (y4_30.map e_api_Node))), (9, (.rows true 27 6 (y9_31.map e_api_Node)))]⟩) ?_ ?_
          · refine .cv (VOk.mv (d := (.v (.int .i64 x5_18))) rfl rfl) rfl rfl ?_
            refine .cv (VOk.to (VOk.fieldB rfl Try.underlying39 rfl sz37 rfl rfl) rfl) rfl rfl ?_
            refine .cv (VOk.loadB (d := (L 1 eS y1_4_23)) rfl Try.underlying37 rfl rfl rfl rfl) rfl rfl ?_
            refine .cv (VOk.lenL (e := eS) (xs := y1_4_23) rfl Try.underlying37 rfl) rfl rfl ?_
            refine .cv (VOk.arith (op := .lss) (k := .i64) (a := x5_18) (b := (y1_4_23.length : Int)) rfl rfl rfl rfl) rfl rfl ?_
            exact .done (.rf rfl rfl)
          refine Ok.test (b := (decide (x5_18 < (y1_4_23.length : Int)))) rfl (fun hb54 => ?_) (fun hb54 => ?_)
          · replace H := ifT H hb54
            refine Ok.skip ?_
            refine Ok.seq ?_
            refine Ok.block ?_
            obtain ⟨c47, H⟩ := assertE H
            obtain ⟨t48, h49, H⟩ := bindE H
            obtain ⟨c50, H⟩ := assertE H
            refine Ok.region (σ' := ⟨[(1, (.bref 1 0)), (2, (.bref 2 0)), (3, (.sref 9)), (4, (.sref 4)), (5, (.v (.int .i64 x5_18)))], [(1, (.box .ex [(S y1_0_19), (L 4 e_api_Entry y1_1_20), (.v (.bool y1_2_21)), (S y1_3_22), (L 1 eS y1_4_23)])), (2, (.box .ex [(.v (.int .i64 y2_0_24)), (S y2_1_25), (S y2_2_26), (L 3 e_api_Attr y2_3_27), (L 6 e_api_Node y2_4_28), (S y2_5_29)])), (4, (.rows true 27 6 ((y4_30 ++ ([t48] : List T_api_Node)).map e_api_Node))), (9, (.rows true 27 6 (y9_31.map e_api_Node)))]⟩) ?_ ?_
            · refine .cv (VOk.mv (d := (.sref 4)) rfl rfl) rfl rfl ?_
              refine .cv (VOk.to (VOk.fieldB rfl Try.underlying39 rfl sz37 rfl rfl) rfl) rfl rfl ?_
              refine .cv (VOk.loadB (d := (L 1 eS y1_4_23)) rfl Try.underlying37 rfl rfl rfl rfl) rfl rfl ?_
              refine .cv (VOk.mv (d := (.v (.int .i64 x5_18))) rfl rfl) rfl rfl ?_
              refine .cv (VOk.indexL (sz := 1) (e := eS) (xs := y1_4_23) (i := x5_18) rfl Try.underlying37 sz9 rfl rfl c47) rfl rfl ?_
              refine .cv (VOk.loadFp (d := (S (rd y1_4_23 x5_18))) rfl Try.underlying9 rfl rfl rfl) rfl rfl ?_
              refine .cg (GOk.call rfl rfl cl68 rfl (watchbillref17_words.ok h49) rfl) rfl rfl ?_
              refine .cg (GOk.to (d' := (L 6 e_api_Node ([t48] : List T_api_Node))) (GOk.lit rfl Try.underlying25 sz27 zs27 rfl rfl rfl rfl) rfl) rfl rfl ?_
              refine OpsOk.cons rfl (OpOk.appendL (e := e_api_Node) (xs := y4_30) (ys := ([t48] : List T_api_Node)) rfl Try.underlying25 elt27 rfl rfl rfl c50 rfl) ?_
              refine .cv (VOk.asg (d := (.sref 4)) rfl rfl) rfl rfl ?_
              exact .done (.rf rfl rfl)
            refine Ok.region (σ' := ⟨[(1, (.bref 1 0)), (2, (.bref 2 0)), (3, (.sref 9)), (4, (.sref 4)), (5, (.v (.int .i64 (IntKind.i64.wrap (x5_18 + 1)))))], [(1, (.box .ex [(S y1_0_19), (L 4 e_api_Entry y1_1_20), (.v (.bool y1_2_21)), (S y1_3_22), (L 1 eS y1_4_23)])), (2, (.box .ex [(.v (.int .i64 y2_0_24)), (S y2_1_25), (S y2_2_26), (L 3 e_api_Attr y2_3_27), (L 6 e_api_Node y2_4_28), (S y2_5_29)])), (4, (.rows true 27 6 ((y4_30 ++ ([t48] : List T_api_Node)).map e_api_Node))), (9, (.rows true 27 6 (y9_31.map e_api_Node)))]⟩) ?_ ?_
            · refine .cv (VOk.mv (d := (.v (.int .i64 x5_18))) rfl rfl) rfl rfl ?_
              refine .cv (VOk.arith (op := .add) (k := .i64) (a := x5_18) (b := 1) rfl rfl rfl rfl) rfl rfl ?_
              refine .cv (VOk.asg (d := (.v (.int .i64 (IntKind.i64.wrap (x5_18 + 1))))) rfl rfl) rfl rfl ?_
              exact .done (.rf rfl rfl)
            exact ⟨m46, Nat.lt_succ_self m46, y1_0_19, y1_1_20, y1_2_21, y1_3_22, y1_4_23, y2_0_24, y2_1_25, y2_2_26, y2_3_27, y2_4_28, y2_5_29, (y4_30 ++ ([t48] : List T_api_Node)), y9_31, (IntKind.i64.wrap (x5_18 + 1)), rfl, H⟩
          · replace H := ifF H hb54
            refine Ok.exit ?_
            obtain ⟨t51, h52, H⟩ := bindE H
            obtain ⟨c53, H⟩ := assertE H
            refine Ok.frzL 4 (e := e_api_Node) (xs := y4_30) rfl ?_
            refine Ok.region (σ' := ⟨[(1, (.bref 1 0)), (2, (.bref 2 0)), (3, (.sref 9))], [(1, (.box .ex [(S y1_0_19), (L 4 e_api_Entry y1_1_20), (.v (.bool y1_2_21)), (S y1_3_22), (L 1 eS y1_4_23)])), (2, (.box .ex [(.v (.int .i64 y2_0_24)), (S y2_1_25), (S y2_2_26), (L 3 e_api_Attr y2_3_27), (L 6 e_api_Node y2_4_28), (S y2_5_29)])), (9, (.rows true 27 6 ((y9_31 ++ ([t51] : List T_api_Node)).map e_api_Node)))]⟩) ?_ ?_
            · refine .cv (VOk.mv (d := (.sref 9)) rfl rfl) rfl rfl ?_
              refine .cv (VOk.mv (d := (L 6 e_api_Node y4_30)) rfl rfl) rfl rfl ?_
              refine .cg (GOk.call rfl rfl cl40 rfl (watchbillref16_El.ok h52) rfl) rfl rfl ?_
              refine .cg (GOk.to (d' := (L 6 e_api_Node ([t51] : List T_api_Node))) (GOk.lit rfl Try.underlying25 sz27 zs27 rfl rfl rfl rfl) rfl) rfl rfl ?_
              refine OpsOk.cons rfl (OpOk.appendL (e := e_api_Node) (xs := y9_31) (ys := ([t51] : List T_api_Node)) rfl Try.underlying25 elt27 rfl rfl rfl c53 rfl) ?_
              refine .cv (VOk.asg (d := (.sref 9)) rfl rfl) rfl rfl ?_
              exact .done (.rf rfl rfl)
            exact ⟨y1_0_19, y1_1_20, y1_2_21, y1_3_22, y1_4_23, y2_0_24, y2_1_25, y2_2_26, y2_3_27, y2_4_28, y2_5_29, (y9_31 ++ ([t51] : List T_api_Node)), rfl, H⟩
      · replace H := ifF H hb55
        refine Ok.le (σ' := ⟨[(1, (.bref 1 0)), (2, (.bref 2 0)), (3, (.sref 9))], [(1, (.box .ex (c_api_Service a0))), (2, (.box .ex [(.v (.int .i64 0)), (S ([] : Str)), (S ([] : Str)), (L 3 e_api_Attr ([] : List T_api_Attr)), (L 6 e_api_Node ([] : List T_api_Node)), (S ([] : Str))])), (9, (.rows true 27 6 (y9_3.map e_api_Node)))]⟩) (.rf rfl rfl) ?_
        refine Ok.skip ?_
        exact ⟨a0.URI, a0.List_, a0.Inline, a0.Ref, a0.Packages, 0, ([] : Str), ([] : Str), ([] : List T_api_Attr), ([] : List T_api_Node), ([] : Str), y9_3, rfl, H⟩
    · rintro σ ⟨y1_0_4, y1_1_5, y1_2_6, y1_3_7, y1_4_8, y2_0_9, y2_1_10, y2_2_11, y2_3_12, y2_4_13, y2_5_14, y9_15, rfl, H⟩
      unfold watchbillref17_made.j0 at H
      refine Ok.seq ?_
      obtain ⟨t16, h17, H⟩ := bindE H
      refine Ok.frzL 9 (e := e_api_Node) (xs := y9_15) rfl ?_
      refine Ok.region (σ' := ⟨[(2, (.bref 2 0))], [(2, (.box .ex (c_api_Node t16)))]⟩) ?_ ?_
      · refine .cv (VOk.to (VOk.fieldB rfl Try.underlying39 rfl sz9 rfl rfl) rfl) rfl rfl ?_
        refine .cv (VOk.loadB (d := (S y1_0_4)) rfl Try.underlying9 rfl rfl rfl rfl) rfl rfl ?_
        refine .cv (VOk.mv (d := (L 6 e_api_Node y9_15)) rfl rfl) rfl rfl ?_
        refine .cg (GOk.call rfl rfl cl40 rfl (watchbillref16_El.ok h17) rfl) rfl rfl ?_
        refine OpsOk.cut1 46 (.agg [(.v (.int .i64 t16.Kind)), (S t16.Name.Space), (S t16.Name.Local), (L 3 e_api_Attr t16.Attrs), (L 6 e_api_Node t16.Kids), (S t16.Text)]) (DLe.of_eq (congrArg D.agg (e_api_Node_c _).symm)) ?_
        refine OpsOk.cons rfl (OpOk.to (σ2 := St.put ⟨_, (2, (.box .ex (c_api_Node t16))) :: _⟩ _ .junk) (.storeB rfl sz27 rfl rfl rfl rfl rfl rfl) rfl) ?_
        exact .done (.rf rfl rfl)
      refine Ok.ret ?_
      obtain rfl := Option.some.inj H
      exact ⟨.inl rfl, ⟨_, (.cons (.cell (VOk.to (d' := (.agg (e_api_Node t16))) (.loadBAgg rfl Try.underlying27 rfl sz27 rfl rfl rfl) (congrArg D.agg (e_api_Node_c t16).symm))) .nil), rfl⟩, trivial⟩

end Go.Proofs.Ytannhioamkkdnaa.Sh
