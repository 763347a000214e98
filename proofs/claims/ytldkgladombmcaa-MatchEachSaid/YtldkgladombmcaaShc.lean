import Derived.Test.YtldkgladombmcaaProg
import Derived.Test.YtldkgladombmcaaShb
namespace Go.Proofs.Ytldkgladombmcaa.Sh
open Go Go.RowKit Go.Proofs.Vx
set_option linter.unusedVariables false

set_option maxRecDepth 100000
set_option maxHeartbeats 1000000
/-! watchbill/watchbilllaw12.MatchFinds: function 3 -/
def watchbilllaw12_MatchFinds.l0 (k : Nat) (t12 : (List (List Int))) (t14 : (List (List Int))) : Nat → Int → Option Bool
  | 0, _ => none
  | m24 + 1, x11_22 => (if (decide (x11_22 < (t12.length : Int))) = true then (if (0 : Int) ≤ x11_22 ∧ x11_22 < (t12.length : Int) then (if (0 : Int) ≤ x11_22 ∧ x11_22 < (t14.length : Int) then ((watchbillref06_Same k (rd t12 x11_22) (rd t14 x11_22)).bind fun (t27 : Bool) => (if (!t27) = true then some false else watchbilllaw12_MatchFinds.l0 k t12 t14 m24 (IntKind.i64.wrap (x11_22 + 1)))) else none) else none) else some true)
def watchbilllaw12_MatchFinds (k : Nat) (a0 : T_api_Node) (a1 : List T_api_Step) (a2 : Int) (a3 : T_api_Step) : Option Bool := ((watchbilllaw12_awake k).bind fun (t1 : Bool) => (if (!t1) = true then some false else ((watchbilllaw04_Few k a0).bind fun (t3 : Bool) => (((if ((!t3) == false) = true then watchbilllaw10_Few k a1 else some default)).bind fun (t6 : Bool) => (if (((!t3) || (!t6)) || (decide ((a1.length : Int) > 30))) = true then some true else (if (([] : List T_api_Step).length + a1.length) * 112 ≤ 140737488355328 then ((match_Find k a0 (([] : List T_api_Step) ++ a1)).bind fun (t12 : (List (List Int))) => ((watchbillref12_Find k a0 a1).bind fun (t14 : (List (List Int))) => (((if (((t12.length : Int) != (t14.length : Int)) == false) = true then match_Fits k a0 a2 a3 else some default)).bind fun (t17 : Bool) => (((if (((t12.length : Int) != (t14.length : Int)) == false) = true then watchbillref12_Fits k a0 a2 a3 else some default)).bind fun (t19 : Bool) => (if (((t12.length : Int) != (t14.length : Int)) || (!(t17 == t19))) = true then some false else watchbilllaw12_MatchFinds.l0 k t12 t14 k 0))))) else none))))))
theorem watchbilllaw12_MatchFinds.ok {k : Nat} {a0 : T_api_Node} {a1 : List T_api_Step} {a2 : Int} {a3 : T_api_Step} {r : Bool} (H : watchbilllaw12_MatchFinds k a0 a1 a2 a3 = some r) : Vx.Fn Try.prog 3 [(.agg (e_api_Node a0)), (L 9 e_api_Step a1), (.v (.int .i64 a2)), (.agg (e_api_Step a3))] [] (.v (.bool r)) [] := by
  unfold watchbilllaw12_MatchFinds at H
  refine Vx.Fn.of_okR Try.func3 rfl (Nat.le_of_ble_eq_true rfl) ?_
  refine Ok.seq ?_
  refine Ok.region (σ' := ⟨[(1, (L 9 e_api_Step a1)), (2, (.v (.int .i64 a2))), (4, (.bref 4 0)), (7, (.bref 7 0))], [(4, (.box true [(.v (.int .i64 a0.Kind)), (S a0.Name.Space), (S a0.Name.Local), (L 3 e_api_Attr a0.Attrs), (L 6 e_api_Node a0.Kids), (S a0.Text)])), (7, (.box true [(.v (.int .i64 a3.Kind)), (.v (.bool a3.Any)), (S a3.Name.Space), (S a3.Name.Local), (.v (.int .i64 a3.Pos)), (.v (.bool a3.By)), (S a3.Attr.Space), (S a3.Attr.Local), (S a3.Value)]))]⟩) ?_ ?_
  · refine OpsOk.cut (σ := ⟨[(0, (.agg [(.v (.int .i64 a0.Kind)), (S a0.Name.Space), (S a0.Name.Local), (L 3 e_api_Attr a0.Attrs), (L 6 e_api_Node a0.Kids), (S a0.Text)])), (1, (L 9 e_api_Step a1)), (2, (.v (.int .i64 a2))), (3, (.agg (e_api_Step a3)))], []⟩) (.mk ⟨DLe.of_eq (congrArg D.agg (e_api_Node_c _).symm), .same _, .same _, .same _, trivial⟩ trivial) ?_
    refine OpsOk.cons rfl (OpOk.box 4 (cells := [(.v (.int .i64 a0.Kind)), (S a0.Name.Space), (S a0.Name.Local), (L 3 e_api_Attr a0.Attrs), (L 6 e_api_Node a0.Kids), (S a0.Text)]) rfl rfl rfl rfl) ?_
    refine OpsOk.cons rfl (OpOk.box 7 (cells := [(.v (.int .i64 a3.Kind)), (.v (.bool a3.Any)), (S a3.Name.Space), (S a3.Name.Local), (.v (.int .i64 a3.Pos)), (.v (.bool a3.By)), (S a3.Attr.Space), (S a3.Attr.Local), (S a3.Value)]) rfl rfl rfl rfl) ?_
    refine OpsOk.cons rfl (.v (VOk.asg (d := (.v (.bool false))) rfl rfl) rfl) ?_
    exact .done (.mk ⟨.same _, .same _, .same _, .same _, trivial⟩ ⟨.same _, .same _, trivial⟩)
  refine Ok.seq ?_
  refine Ok.seq ?_
  obtain ⟨t1, h2, H⟩ := bindE H
  refine Ok.region (σ' := ⟨[(1, (L 9 e_api_Step a1)), (2, (.v (.int .i64 a2))), (4, (.bref 4 0)), (7, (.bref 7 0)), (13, (.v (.bool (!t1))))], [(4, (.box true [(.v (.int .i64 a0.Kind)), (S a0.Name.Space), (S a0.Name.Local), (L 3 e_api_Attr a0.Attrs), (L 6 e_api_Node a0.Kids), (S a0.Text)])), (7, (.box true [(.v (.int .i64 a3.Kind)), (.v (.bool a3.Any)), (S a3.Name.Space), (S a3.Name.Local), (.v (.int .i64 a3.Pos)), (.v (.bool a3.By)), (S a3.Attr.Space), (S a3.Attr.Local), (S a3.Value)]))]⟩) ?_ ?_
  · refine OpsOk.cons rfl (.g (GOk.call rfl rfl cl7 rfl (watchbilllaw12_awake.ok h2) rfl) rfl) ?_
    refine OpsOk.cons rfl (.v (VOk.not (b := t1) rfl rfl) rfl) ?_
    exact .done (.mk ⟨.same _, .same _, .same _, .same _, .same _, trivial⟩ ⟨.same _, .same _, trivial⟩)
  refine Ok.test (b := (!t1)) rfl (fun hb33 => ?_) (fun hb33 => ?_)
  · replace H := ifT H hb33
    refine Ok.seq ?_
    refine Ok.region (σ' := ⟨[(8, (.v (.bool false)))], []⟩) ?_ ?_
    · refine OpsOk.cons rfl (.v (VOk.asg (d := (.v (.bool false))) rfl rfl) rfl) ?_
      exact .done (.mk ⟨.same _, trivial⟩ trivial)
    refine Ok.le (σ' := ⟨[(8, (.v (.bool false)))], []⟩) (.mk ⟨.same _, trivial⟩ trivial) ?_
    refine Ok.ret ?_
    obtain rfl := Option.some.inj H
    exact ⟨.inl rfl, ⟨_, (.cons (.tmp rfl) .nil), rfl⟩, trivial⟩
  · replace H := ifF H hb33
    refine Ok.le (σ' := ⟨[(1, (L 9 e_api_Step a1)), (2, (.v (.int .i64 a2))), (4, (.bref 4 0)), (7, (.bref 7 0))], [(4, (.box true [(.v (.int .i64 a0.Kind)), (S a0.Name.Space), (S a0.Name.Local), (L 3 e_api_Attr a0.Attrs), (L 6 e_api_Node a0.Kids), (S a0.Text)])), (7, (.box true [(.v (.int .i64 a3.Kind)), (.v (.bool a3.Any)), (S a3.Name.Space), (S a3.Name.Local), (.v (.int .i64 a3.Pos)), (.v (.bool a3.By)), (S a3.Attr.Space), (S a3.Attr.Local), (S a3.Value)]))]⟩) (.mk ⟨.same _, .same _, .same _, .same _, trivial⟩ ⟨.same _, .same _, trivial⟩) ?_
    refine Ok.skip ?_
    refine Ok.seq ?_
    refine Ok.seq ?_
    obtain ⟨t3, h4, H⟩ := bindE H
    obtain ⟨t6, h7, H⟩ := bindE H
    refine Ok.region (σ' := ⟨[(1, (L 9 e_api_Step a1)), (2, (.v (.int .i64 a2))), (4, (.bref 4 0)), (7, (.bref 7 0)), (26, (.v (.bool (((!t3) || (!t6)) || (decide ((a1.length : Int) > 30))))))], [(4, (.box true [(.v (.int .i64 a0.Kind)), (S a0.Name.Space), (S a0.Name.Local), (L 3 e_api_Attr a0.Attrs), (L 6 e_api_Node a0.Kids), (S a0.Text)])), (7, (.box true [(.v (.int .i64 a3.Kind)), (.v (.bool a3.Any)), (S a3.Name.Space), (S a3.Name.Local), (.v (.int .i64 a3.Pos)), (.v (.bool a3.By)), (S a3.Attr.Space), (S a3.Attr.Local), (S a3.Value)]))]⟩) ?_ ?_
    · refine OpsOk.cons rfl (.v (VOk.to (d' := (.agg (e_api_Node a0))) (.loadBAgg rfl Try.underlying27 rfl sz27 rfl rfl rfl) (congrArg D.agg (e_api_Node_c a0).symm)) rfl) ?_
      refine OpsOk.cons rfl (.g (GOk.call rfl rfl cl8 rfl (watchbilllaw04_Few.ok h4) rfl) rfl) ?_
      refine OpsOk.cons rfl (.v (VOk.not (b := t3) rfl rfl) rfl) ?_
      refine OpsOk.cons rfl (.v (VOk.mv (d := (.v (.bool (!t3)))) rfl rfl) rfl) ?_
      refine OpsOk.consI rfl rfl rfl (.one rfl) rfl (fun hw5 => (VOk.g (VOk.mv (d := (L 9 e_api_Step a1)) rfl rfl))) ?_
      refine OpsOk.consI rfl rfl rfl (.one rfl) rfl (fun hw5 => (GOk.fr (fr' := [(18, (L 9 e_api_Step a1))]) ⟨DLe.of_eq (cT hw5).symm, trivial⟩ (GOk.call rfl rfl cl9 rfl (watchbilllaw10_Few.ok (ifT h7 hw5)) rfl))) ?_
      refine OpsOk.consI rfl rfl rfl (.one rfl) rfl (fun hw5 => (GOk.fr (fr' := [(19, (.v (.bool t6)))]) ⟨DLe.of_eq (cT hw5).symm, trivial⟩ (VOk.g (VOk.not (b := t6) rfl rfl)))) ?_
      refine OpsOk.cons rfl (.v (VOk.to (VOk.pickI (b := (!t3)) (p := true) (q := (!t6)) rfl rfl (fun hp8 => rfl) (fun hp8 => (cT (f_beq hp8)))) (pickOr (!t3) (!t6))) rfl) ?_
      refine OpsOk.cons rfl (.v (VOk.mv (d := (.v (.bool ((!t3) || (!t6))))) rfl rfl) rfl) ?_
      refine OpsOk.consI rfl rfl rfl (.one rfl) rfl (fun hw9 => (VOk.g (VOk.mv (d := (L 9 e_api_Step a1)) rfl rfl))) ?_
      refine OpsOk.consI rfl rfl rfl (.one rfl) rfl (fun hw9 => (GOk.fr (fr' := [(23, (L 9 e_api_Step a1))]) ⟨DLe.of_eq (cT hw9).symm, trivial⟩ (VOk.g (VOk.lenL (e := e_api_Step) (xs := a1) rfl Try.underlying28 rfl)))) ?_
      refine OpsOk.consI rfl rfl rfl (.one rfl) rfl (fun hw9 => (GOk.fr (fr' := [(24, (.v (.int .i64 (a1.length : Int))))]) ⟨DLe.of_eq (cT hw9).symm, trivial⟩ (VOk.g (VOk.arith (op := .gtr) (k := .i64) (a := (a1.length : Int)) (b := 30) rfl rfl rfl rfl)))) ?_
      refine OpsOk.cons rfl (.v (VOk.to (VOk.pickI (b := ((!t3) || (!t6))) (p := true) (q := (decide ((a1.length : Int) > 30))) rfl rfl (fun hp10 => rfl) (fun hp10 => (cT (f_beq hp10)))) (pickOr ((!t3) || (!t6)) (decide ((a1.length : Int) > 30)))) rfl) ?_
      exact .done (.mk ⟨.same _, .same _, .same _, .same _, .same _, trivial⟩ ⟨.same _, .same _, trivial⟩)
    refine Ok.test (b := (((!t3) || (!t6)) || (decide ((a1.length : Int) > 30)))) rfl (fun hb32 => ?_) (fun hb32 => ?_)
    · replace H := ifT H hb32
      refine Ok.seq ?_
      refine Ok.region (σ' := ⟨[(8, (.v (.bool true)))], []⟩) ?_ ?_
      · refine OpsOk.cons rfl (.v (VOk.asg (d := (.v (.bool true))) rfl rfl) rfl) ?_
        exact .done (.mk ⟨.same _, trivial⟩ trivial)
      refine Ok.le (σ' := ⟨[(8, (.v (.bool true)))], []⟩) (.mk ⟨.same _, trivial⟩ trivial) ?_
      refine Ok.ret ?_
      obtain rfl := Option.some.inj H
      exact ⟨.inl rfl, ⟨_, (.cons (.tmp rfl) .nil), rfl⟩, trivial⟩
    · replace H := ifF H hb32
      refine Ok.le (σ' := ⟨[(1, (L 9 e_api_Step a1)), (2, (.v (.int .i64 a2))), (4, (.bref 4 0)), (7, (.bref 7 0))], [(4, (.box true [(.v (.int .i64 a0.Kind)), (S a0.Name.Space), (S a0.Name.Local), (L 3 e_api_Attr a0.Attrs), (L 6 e_api_Node a0.Kids), (S a0.Text)])), (7, (.box true [(.v (.int .i64 a3.Kind)), (.v (.bool a3.Any)), (S a3.Name.Space), (S a3.Name.Local), (.v (.int .i64 a3.Pos)), (.v (.bool a3.By)), (S a3.Attr.Space), (S a3.Attr.Local), (S a3.Value)]))]⟩) (.mk ⟨.same _, .same _, .same _, .same _, trivial⟩ ⟨.same _, .same _, trivial⟩) ?_
      refine Ok.skip ?_
      refine Ok.seq ?_
      obtain ⟨c11, H⟩ := assertE H
      obtain ⟨t12, h13, H⟩ := bindE H
      obtain ⟨t14, h15, H⟩ := bindE H
      refine Ok.drawE (σ' := ⟨[(2, (.v (.int .i64 a2))), (4, (.bref 4 0)), (7, (.bref 7 0)), (9, (L 1 (eL 1 (eI .i64)) t12)), (10, (L 1 (eL 1 (eI .i64)) t14))], [(4, (.box true [(.v (.int .i64 a0.Kind)), (S a0.Name.Space), (S a0.Name.Local), (L 3 e_api_Attr a0.Attrs), (L 6 e_api_Node a0.Kids), (S a0.Text)])), (7, (.box true [(.v (.int .i64 a3.Kind)), (.v (.bool a3.Any)), (S a3.Name.Space), (S a3.Name.Local), (.v (.int .i64 a3.Pos)), (.v (.bool a3.By)), (S a3.Attr.Space), (S a3.Attr.Local), (S a3.Value)]))]⟩) [⟨true, [(4, (.bref 4 0))], (.agg (e_api_Node a0))⟩, ⟨true, [], (.clist 9 (List.map e_api_Step ([] : List T_api_Step)))⟩, ⟨true, [(1, (L 9 e_api_Step a1))], (L 9 e_api_Step a1)⟩, ⟨true, [(28, (.clist 9 (List.map e_api_Step ([] : List T_api_Step)))), (29, (L 9 e_api_Step a1))], (L 9 e_api_Step (([] : List T_api_Step) ++ a1))⟩, ⟨true, [(27, (.agg (e_api_Node a0))), (30, (L 9 e_api_Step (([] : List T_api_Step) ++ a1)))], (L 1 (eL 1 (eI .i64)) t12)⟩, ⟨true, [(4, (.bref 4 0))], (.agg (e_api_Node a0))⟩, ⟨true, [(1, (L 9 e_api_Step a1))], (L 9 e_api_Step a1)⟩, ⟨true, [(32, (.agg (e_api_Node a0))), (33, (L 9 e_api_Step a1))], (L 1 (eL 1 (eI .i64)) t14)⟩, ⟨true, [(31, (L 1 (eL 1 (eI .i64)) t12))], (L 1 (eL 1 (eI .i64)) t12)⟩, ⟨true, [(34, (L 1 (eL 1 (eI .i64)) t14))], (L 1 (eL 1 (eI .i64)) t14)⟩] [[], [], [], [1, 2], [0, 3], [], [], [5, 6], [4], [7]] mixed (by kernel_rfl) ?_ ?_
      · refine TxtE.cons rfl ⟨.same _, trivial⟩ rfl (VOk.g (VOk.to (d' := (.agg (e_api_Node a0))) (.loadBAgg rfl Try.underlying27 rfl sz27 rfl rfl rfl) (congrArg D.agg (e_api_Node_c a0).symm))) ?_
        refine TxtE.cons rfl trivial rfl (GOk.to (d' := (.clist 9 (List.map e_api_Step ([] : List T_api_Step)))) (GOk.litC rfl Try.underlying28 sz30 zs30 rfl rfl rfl rfl) rfl) ?_
        refine TxtE.cons rfl ⟨.same _, trivial⟩ rfl (VOk.g (VOk.mv (d := (L 9 e_api_Step a1)) rfl rfl)) ?_
        refine TxtE.cons rfl ⟨.same _, .same _, trivial⟩ rfl (GOk.appendC (e := e_api_Step) (xs := ([] : List T_api_Step)) (ys := a1) rfl Try.underlying28 elt30 (.same _) rfl c11) ?_
        refine TxtE.cons rfl ⟨.same _, .same _, trivial⟩ rfl (GOk.call rfl rfl cl10 rfl (match_Find.ok h13) rfl) ?_
        refine TxtE.cons rfl ⟨.same _, trivial⟩ rfl (VOk.g (VOk.to (d' := (.agg (e_api_Node a0))) (.loadBAgg rfl Try.underlying27 rfl sz27 rfl rfl rfl) (congrArg D.agg (e_api_Node_c a0).symm))) ?_
        refine TxtE.cons rfl ⟨.same _, trivial⟩ rfl (VOk.g (VOk.mv (d := (L 9 e_api_Step a1)) rfl rfl)) ?_
        refine TxtE.cons rfl ⟨.same _, .same _, trivial⟩ rfl (GOk.call rfl rfl cl11 rfl (watchbillref12_Find.ok h15) rfl) ?_
        refine TxtE.cons rfl ⟨.same _, trivial⟩ rfl (VOk.g (VOk.asg (d := (L 1 (eL 1 (eI .i64)) t12)) rfl rfl)) ?_
        refine TxtE.cons rfl ⟨.same _, trivial⟩ rfl (VOk.g (VOk.asg (d := (L 1 (eL 1 (eI .i64)) t14)) rfl rfl)) ?_
        exact .done (.mk ⟨.same _, .same _, .same _, .same _, .same _, trivial⟩ ⟨.same _, .same _, trivial⟩)
      refine Ok.seq ?_
      refine Ok.seq ?_
      obtain ⟨t17, h18, H⟩ := bindE H
      obtain ⟨t19, h20, H⟩ := bindE H
      refine Ok.drawE (σ' := ⟨[(9, (L 1 (eL 1 (eI .i64)) t12)), (10, (L 1 (eL 1 (eI .i64)) t14)), (50, (.v (.bool (((t12.length : Int) != (t14.length : Int)) || (!(t17 == t19))))))], []⟩) [⟨true, [(9, (L 1 (eL 1 (eI .i64)) t12))], (L 1 (eL 1 (eI .i64)) t12)⟩, ⟨true, [(35, (L 1 (eL 1 (eI .i64)) t12))], (.v (.int .i64 (t12.length : Int)))⟩, ⟨true, [(10, (L 1 (eL 1 (eI .i64)) t14))], (L 1 (eL 1 (eI .i64)) t14)⟩, ⟨true, [(37, (L 1 (eL 1 (eI .i64)) t14))], (.v (.int .i64 (t14.length : Int)))⟩, ⟨true, [(36, (.v (.int .i64 (t12.length : Int)))), (38, (.v (.int .i64 (t14.length : Int))))], (.v (.bool ((t12.length : Int) != (t14.length : Int))))⟩, ⟨true, [(39, (.v (.bool ((t12.length : Int) != (t14.length : Int)))))], (.v (.bool ((t12.length : Int) != (t14.length : Int))))⟩, It.I (((t12.length : Int) != (t14.length : Int)) == false) [(4, (.bref 4 0)), (40, (.v (.bool ((t12.length : Int) != (t14.length : Int)))))] (.agg (e_api_Node a0)), It.I (((t12.length : Int) != (t14.length : Int)) == false) [(2, (.v (.int .i64 a2))), (40, (.v (.bool ((t12.length : Int) != (t14.length : Int)))))] (.v (.int .i64 a2)), It.I (((t12.length : Int) != (t14.length : Int)) == false) [(7, (.bref 7 0)), (40, (.v (.bool ((t12.length : Int) != (t14.length : Int)))))] (.agg (e_api_Step a3)), It.I (((t12.length : Int) != (t14.length : Int)) == false) [(41, (bif (((t12.length : Int) != (t14.length : Int)) == false) then (.agg (e_api_Node a0)) else .v undef)), (42, (bif (((t12.length : Int) != (t14.length : Int)) == false) then (.v (.int .i64 a2)) else .v undef)), (43, (bif (((t12.length : Int) != (t14.length : Int)) == false) then (.agg (e_api_Step a3)) else .v undef)), (40, (.v (.bool ((t12.length : Int) != (t14.length : Int)))))] (.v (.bool t17)), It.I (((t12.length : Int) != (t14.length : Int)) == false) [(4, (.bref 4 0)), (40, (.v (.bool ((t12.length : Int) != (t14.length : Int)))))] (.agg (e_api_Node a0)), It.I (((t12.length : Int) != (t14.length : Int)) == false) [(2, (.v (.int .i64 a2))), (40, (.v (.bool ((t12.length : Int) != (t14.length : Int)))))] (.v (.int .i64 a2)), It.I (((t12.length : Int) != (t14.length : Int)) == false) [(7, (.bref 7 0)), (40, (.v (.bool ((t12.length : Int) != (t14.length : Int)))))] (.agg (e_api_Step a3)), It.I (((t12.length : Int) != (t14.length : Int)) == false) [(45, (bif (((t12.length : Int) != (t14.length : Int)) == false) then (.agg (e_api_Node a0)) else .v undef)), (46, (bif (((t12.length : Int) != (t14.length : Int)) == false) then (.v (.int .i64 a2)) else .v undef)), (47, (bif (((t12.length : Int) != (t14.length : Int)) == false) then (.agg (e_api_Step a3)) else .v undef)), (40, (.v (.bool ((t12.length : Int) != (t14.length : Int)))))] (.v (.bool t19)), It.I (((t12.length : Int) != (t14.length : Int)) == false) [(44, (bif (((t12.length : Int) != (t14.length : Int)) == false) then (.v (.bool t17)) else .v undef)), (48, (bif (((t12.length : Int) != (t14.length : Int)) == false) then (.v (.bool t19)) else .v undef)), (40, (.v (.bool ((t12.length : Int) != (t14.length : Int)))))] (.v (.bool (!(t17 == t19)))), ⟨true, [(40, (.v (.bool ((t12.length : Int) != (t14.length : Int))))), (49, (bif (((t12.length : Int) != (t14.length : Int)) == false) then (.v (.bool (!(t17 == t19)))) else .v undef))], (.v (.bool (((t12.length : Int) != (t14.length : Int)) || (!(t17 == t19)))))⟩] [[], [0], [], [2], [1, 3], [4], [5], [5], [5], [5, 6, 7, 8], [5], [5], [5], [5, 10, 11, 12], [5, 9, 13], [5, 14]] mixed (by kernel_rfl) ?_ ?_
      · refine TxtE.cons rfl ⟨.same _, trivial⟩ rfl (VOk.g (VOk.mv (d := (L 1 (eL 1 (eI .i64)) t12)) rfl rfl)) ?_
        refine TxtE.cons rfl ⟨.same _, trivial⟩ rfl (VOk.g (VOk.lenL (e := (eL 1 (eI .i64))) (xs := t12) rfl Try.underlying34 rfl)) ?_
        refine TxtE.cons rfl ⟨.same _, trivial⟩ rfl (VOk.g (VOk.mv (d := (L 1 (eL 1 (eI .i64)) t14)) rfl rfl)) ?_
        refine TxtE.cons rfl ⟨.same _, trivial⟩ rfl (VOk.g (VOk.lenL (e := (eL 1 (eI .i64))) (xs := t14) rfl Try.underlying34 rfl)) ?_
        refine TxtE.cons rfl ⟨.same _, .same _, trivial⟩ rfl (VOk.g (VOk.arith (op := .neq) (k := .i64) (a := (t12.length : Int)) (b := (t14.length : Int)) rfl rfl rfl rfl)) ?_
        refine TxtE.cons rfl ⟨.same _, trivial⟩ rfl (VOk.g (VOk.mv (d := (.v (.bool ((t12.length : Int) != (t14.length : Int))))) rfl rfl)) ?_
        refine TxtE.consI rfl ⟨.same _, .same _, trivial⟩ rfl rfl (.one rfl) (fun hw16 => (VOk.g (VOk.to (d' := (.agg (e_api_Node a0))) (.loadBAgg rfl Try.underlying27 rfl sz27 rfl rfl rfl) (congrArg D.agg (e_api_Node_c a0).symm)))) ?_
        refine TxtE.consI rfl ⟨.same _, .same _, trivial⟩ rfl rfl (.one rfl) (fun hw16 => (VOk.g (VOk.mv (d := (.v (.int .i64 a2))) rfl rfl))) ?_
        refine TxtE.consI rfl ⟨.same _, .same _, trivial⟩ rfl rfl (.one rfl) (fun hw16 => (VOk.g (VOk.to (d' := (.agg (e_api_Step a3))) (.loadBAgg rfl Try.underlying30 rfl sz30 rfl rfl rfl) rfl))) ?_
        refine TxtE.consI rfl ⟨.same _, .same _, .same _, .same _, trivial⟩ rfl rfl (.one rfl) (fun hw16 => (GOk.fr (fr' := [(41, (.agg (e_api_Node a0))), (42, (.v (.int .i64 a2))), (43, (.agg (e_api_Step a3)))]) ⟨DLe.of_eq (cT hw16).symm, DLe.of_eq (cT hw16).symm, DLe.of_eq (cT hw16).symm, trivial⟩ (GOk.call rfl rfl cl12 rfl (match_Fits.ok (ifT h18 hw16)) rfl))) ?_
        refine TxtE.consI rfl ⟨.same _, .same _, trivial⟩ rfl rfl (.one rfl) (fun hw16 => (VOk.g (VOk.to (d' := (.agg (e_api_Node a0))) (.loadBAgg rfl Try.underlying27 rfl sz27 rfl rfl rfl) (congrArg D.agg (e_api_Node_c a0).symm)))) ?_
        refine TxtE.consI rfl ⟨.same _, .same _, trivial⟩ rfl rfl (.one rfl) (fun hw16 => (VOk.g (VOk.mv (d := (.v (.int .i64 a2))) rfl rfl))) ?_
        refine TxtE.consI rfl ⟨.same _, .same _, trivial⟩ rfl rfl (.one rfl) (fun hw16 => (VOk.g (VOk.to (d' := (.agg (e_api_Step a3))) (.loadBAgg rfl Try.underlying30 rfl sz30 rfl rfl rfl) rfl))) ?_
        refine TxtE.consI rfl ⟨.same _, .same _, .same _, .same _, trivial⟩ rfl rfl (.one rfl) (fun hw16 => (GOk.fr (fr' := [(45, (.agg (e_api_Node a0))), (46, (.v (.int .i64 a2))), (47, (.agg (e_api_Step a3)))]) ⟨DLe.of_eq (cT hw16).symm, DLe.of_eq (cT hw16).symm, DLe.of_eq (cT hw16).symm, trivial⟩ (GOk.call rfl rfl cl13 rfl (watchbillref12_Fits.ok (ifT h20 hw16)) rfl))) ?_
        refine TxtE.consI rfl ⟨.same _, .same _, .same _, trivial⟩ rfl rfl (.one rfl) (fun hw16 => (GOk.fr (fr' := [(44, (.v (.bool t17))), (48, (.v (.bool t19)))]) ⟨DLe.of_eq (cT hw16).symm, DLe.of_eq (cT hw16).symm, trivial⟩ (VOk.g (VOk.eqB (op := .neq) (p := t17) (q := t19) rfl (.inr rfl) Try.underlying4 rfl rfl)))) ?_
        refine TxtE.cons rfl ⟨.same _, .same _, trivial⟩ rfl (VOk.g (VOk.to (VOk.pickI (b := ((t12.length : Int) != (t14.length : Int))) (p := true) (q := (!(t17 == t19))) rfl rfl (fun hp21 => rfl) (fun hp21 => (cT (f_beq hp21)))) (pickOr ((t12.length : Int) != (t14.length : Int)) (!(t17 == t19))))) ?_
        exact .done (.mk ⟨.same _, .same _, .same _, trivial⟩ trivial)
      refine Ok.test (b := (((t12.length : Int) != (t14.length : Int)) || (!(t17 == t19)))) rfl (fun hb31 => ?_) (fun hb31 => ?_)
      · replace H := ifT H hb31
        refine Ok.seq ?_
        refine Ok.region (σ' := ⟨[(8, (.v (.bool false)))], []⟩) ?_ ?_
        · refine OpsOk.cons rfl (.v (VOk.asg (d := (.v (.bool false))) rfl rfl) rfl) ?_
          exact .done (.mk ⟨.same _, trivial⟩ trivial)
        refine Ok.le (σ' := ⟨[(8, (.v (.bool false)))], []⟩) (.mk ⟨.same _, trivial⟩ trivial) ?_
        refine Ok.ret ?_
        obtain rfl := Option.some.inj H
        exact ⟨.inl rfl, ⟨_, (.cons (.tmp rfl) .nil), rfl⟩, trivial⟩
      · replace H := ifF H hb31
        refine Ok.le (σ' := ⟨[(9, (L 1 (eL 1 (eI .i64)) t12)), (10, (L 1 (eL 1 (eI .i64)) t14))], []⟩) (.mk ⟨.same _, .same _, trivial⟩ trivial) ?_
        refine Ok.skip ?_
        refine Ok.seq ?_
        refine Ok.seq ?_
        refine Ok.region (σ' := ⟨[(9, (L 1 (eL 1 (eI .i64)) t12)), (10, (L 1 (eL 1 (eI .i64)) t14)), (11, (.v (.int .i64 0)))], []⟩) ?_ ?_
        · refine OpsOk.cons rfl (.v (VOk.asg (d := (.v (.int .i64 0))) rfl rfl) rfl) ?_
          exact .done (.mk ⟨.same _, .same _, .same _, trivial⟩ trivial)
        refine Ok.block ?_
        refine Ok.le (σ' := ⟨[(9, (L 1 (eL 1 (eI .i64)) t12)), (10, (L 1 (eL 1 (eI .i64)) t14)), (11, (.v (.int .i64 0)))], []⟩) (.mk ⟨.same _, .same _, .same _, trivial⟩ trivial) ?_
        refine Ok.loop (fun m24 σ => ∃ (x11_22 : Int), σ = ⟨[(9, (L 1 (eL 1 (eI .i64)) t12)), (10, (L 1 (eL 1 (eI .i64)) t14)), (11, (.v (.int .i64 x11_22)))], []⟩ ∧ watchbilllaw12_MatchFinds.l0 k t12 t14 m24 x11_22 = some r) k ⟨0, rfl, H⟩ ?_
        rintro m24 σ ⟨x11_22, rfl, H⟩
        cases m24 with
        | zero => exact absurd H (by simp [watchbilllaw12_MatchFinds.l0])
        | succ m24 =>
          unfold watchbilllaw12_MatchFinds.l0 at H
          refine Ok.seq ?_
          refine Ok.seq ?_
          refine Ok.region (σ' := ⟨[(9, (L 1 (eL 1 (eI .i64)) t12)), (10, (L 1 (eL 1 (eI .i64)) t14)), (11, (.v (.int .i64 x11_22))), (54, (.v (.bool (decide (x11_22 < (t12.length : Int))))))], []⟩) ?_ ?_
          · refine OpsOk.cons rfl (.v (VOk.mv (d := (.v (.int .i64 x11_22))) rfl rfl) rfl) ?_
            refine OpsOk.cons rfl (.v (VOk.mv (d := (L 1 (eL 1 (eI .i64)) t12)) rfl rfl) rfl) ?_
            refine OpsOk.cons rfl (.v (VOk.lenL (e := (eL 1 (eI .i64))) (xs := t12) rfl Try.underlying34 rfl) rfl) ?_
            refine OpsOk.cons rfl (.v (VOk.arith (op := .lss) (k := .i64) (a := x11_22) (b := (t12.length : Int)) rfl rfl rfl rfl) rfl) ?_
            exact .done (.mk ⟨.same _, .same _, .same _, .same _, trivial⟩ trivial)
          refine Ok.test (b := (decide (x11_22 < (t12.length : Int)))) rfl (fun hb30 => ?_) (fun hb30 => ?_)
          · replace H := ifT H hb30
            refine Ok.le (σ' := ⟨[(9, (L 1 (eL 1 (eI .i64)) t12)), (10, (L 1 (eL 1 (eI .i64)) t14)), (11, (.v (.int .i64 x11_22)))], []⟩) (.mk ⟨.same _, .same _, .same _, trivial⟩ trivial) ?_
            refine Ok.skip ?_
            refine Ok.seq ?_
            refine Ok.block ?_
            refine Ok.seq ?_
            obtain ⟨c25, H⟩ := assertE H
            obtain ⟨c26, H⟩ := assertE H
            obtain ⟨t27, h28, H⟩ := bindE H
            refine Ok.drawE (σ' := ⟨[(9, (L 1 (eL 1 (eI .i64)) t12)), (10, (L 1 (eL 1 (eI .i64)) t14)), (11, (.v (.int .i64 x11_22))), (66, (.v (.bool (!t27))))], []⟩) [⟨true, [(9, (L 1 (eL 1 (eI .i64)) t12))], (L 1 (eL 1 (eI .i64)) t12)⟩, ⟨true, [(11, (.v (.int .i64 x11_22)))], (.v (.int .i64 x11_22))⟩, ⟨true, [(57, (L 1 (eL 1 (eI .i64)) t12)), (58, (.v (.int .i64 x11_22)))], (.fp ((eL 1 (eI .i64)) (rd t12 x11_22)) 0)⟩, ⟨true, [(59, (.fp ((eL 1 (eI .i64)) (rd t12 x11_22)) 0))], (L 1 (eI .i64) (rd t12 x11_22))⟩, ⟨true, [(10, (L 1 (eL 1 (eI .i64)) t14))], (L 1 (eL 1 (eI .i64)) t14)⟩, ⟨true, [(11, (.v (.int .i64 x11_22)))], (.v (.int .i64 x11_22))⟩, ⟨true, [(61, (L 1 (eL 1 (eI .i64)) t14)), (62, (.v (.int .i64 x11_22)))], (.fp ((eL 1 (eI .i64)) (rd t14 x11_22)) 0)⟩, ⟨true, [(63, (.fp ((eL 1 (eI .i64)) (rd t14 x11_22)) 0))], (L 1 (eI .i64) (rd t14 x11_22))⟩, ⟨true, [(60, (L 1 (eI .i64) (rd t12 x11_22))), (64, (L 1 (eI .i64) (rd t14 x11_22)))], (.v (.bool t27))⟩, ⟨true, [(65, (.v (.bool t27)))], (.v (.bool (!t27)))⟩] [[], [], [0, 1], [2], [], [], [4, 5], [6], [3, 7], [8]] mixed (by kernel_rfl) ?_ ?_
            · refine TxtE.cons rfl ⟨.same _, trivial⟩ rfl (VOk.g (VOk.mv (d := (L 1 (eL 1 (eI .i64)) t12)) rfl rfl)) ?_
              refine TxtE.cons rfl ⟨.same _, trivial⟩ rfl (VOk.g (VOk.mv (d := (.v (.int .i64 x11_22))) rfl rfl)) ?_
              refine TxtE.cons rfl ⟨.same _, .same _, trivial⟩ rfl (VOk.g (VOk.indexL (sz := 1) (e := (eL 1 (eI .i64))) (xs := t12) (i := x11_22) rfl Try.underlying34 sz39 rfl rfl c25)) ?_
              refine TxtE.cons rfl ⟨.same _, trivial⟩ rfl (VOk.g (VOk.loadFp (d := (L 1 (eI .i64) (rd t12 x11_22))) rfl Try.underlying39 rfl rfl rfl)) ?_
              refine TxtE.cons rfl ⟨.same _, trivial⟩ rfl (VOk.g (VOk.mv (d := (L 1 (eL 1 (eI .i64)) t14)) rfl rfl)) ?_
              refine TxtE.cons rfl ⟨.same _, trivial⟩ rfl (VOk.g (VOk.mv (d := (.v (.int .i64 x11_22))) rfl rfl)) ?_
              refine TxtE.cons rfl ⟨.same _, .same _, trivial⟩ rfl (VOk.g (VOk.indexL (sz := 1) (e := (eL 1 (eI .i64))) (xs := t14) (i := x11_22) rfl Try.underlying34 sz39 rfl rfl c26)) ?_
              refine TxtE.cons rfl ⟨.same _, trivial⟩ rfl (VOk.g (VOk.loadFp (d := (L 1 (eI .i64) (rd t14 x11_22))) rfl Try.underlying39 rfl rfl rfl)) ?_
              refine TxtE.cons rfl ⟨.same _, .same _, trivial⟩ rfl (GOk.call rfl rfl cl14 rfl (watchbillref06_Same.ok h28) rfl) ?_
              refine TxtE.cons rfl ⟨.same _, trivial⟩ rfl (VOk.g (VOk.not (b := t27) rfl rfl)) ?_
              exact .done (.mk ⟨.same _, .same _, .same _, .same _, trivial⟩ trivial)
            refine Ok.test (b := (!t27)) rfl (fun hb29 => ?_) (fun hb29 => ?_)
            · replace H := ifT H hb29
              refine Ok.seq ?_
              refine Ok.region (σ' := ⟨[(8, (.v (.bool false)))], []⟩) ?_ ?_
              · refine OpsOk.cons rfl (.v (VOk.asg (d := (.v (.bool false))) rfl rfl) rfl) ?_
                exact .done (.mk ⟨.same _, trivial⟩ trivial)
              refine Ok.le (σ' := ⟨[(8, (.v (.bool false)))], []⟩) (.mk ⟨.same _, trivial⟩ trivial) ?_
              refine Ok.ret ?_
              obtain rfl := Option.some.inj H
              exact ⟨.inl rfl, ⟨_, (.cons (.tmp rfl) .nil), rfl⟩, trivial⟩
            · replace H := ifF H hb29
              refine Ok.le (σ' := ⟨[(9, (L 1 (eL 1 (eI .i64)) t12)), (10, (L 1 (eL 1 (eI .i64)) t14)), (11, (.v (.int .i64 x11_22)))], []⟩) (.mk ⟨.same _, .same _, .same _, trivial⟩ trivial) ?_
              refine Ok.skip ?_
              refine Ok.region (σ' := ⟨[(9, (L 1 (eL 1 (eI .i64)) t12)), (10, (L 1 (eL 1 (eI .i64)) t14)), (11, (.v (.int .i64 (IntKind.i64.wrap (x11_22 + 1)))))], []⟩) ?_ ?_
              · refine OpsOk.cons rfl (.v (VOk.mv (d := (.v (.int .i64 x11_22))) rfl rfl) rfl) ?_
                refine OpsOk.cons rfl (.v (VOk.arith (op := .add) (k := .i64) (a := x11_22) (b := 1) rfl rfl rfl rfl) rfl) ?_
                refine OpsOk.cons rfl (.v (VOk.asg (d := (.v (.int .i64 (IntKind.i64.wrap (x11_22 + 1))))) rfl rfl) rfl) ?_
                exact .done (.mk ⟨.same _, .same _, .same _, trivial⟩ trivial)
              exact ⟨m24, Nat.lt_succ_self m24, (IntKind.i64.wrap (x11_22 + 1)), rfl, H⟩
          · replace H := ifF H hb30
            refine Ok.le (σ' := ⟨[], []⟩) (.mk trivial trivial) ?_
            refine Ok.exit ?_
            refine Ok.seq ?_
            refine Ok.region (σ' := ⟨[(8, (.v (.bool true)))], []⟩) ?_ ?_
            · refine OpsOk.cons rfl (.v (VOk.asg (d := (.v (.bool true))) rfl rfl) rfl) ?_
              exact .done (.mk ⟨.same _, trivial⟩ trivial)
            refine Ok.le (σ' := ⟨[(8, (.v (.bool true)))], []⟩) (.mk ⟨.same _, trivial⟩ trivial) ?_
            refine Ok.ret ?_
            obtain rfl := Option.some.inj H
            exact ⟨.inl rfl, ⟨_, (.cons (.tmp rfl) .nil), rfl⟩, trivial⟩

/-! watchbill/watchbillref12.Split: function 16 -/
def watchbillref12_Split (a0 : List T_api_Step) : Option ((List T_api_Step) × T_api_Step) := (if (((decide ((a0.length : Int) > 0)) == true) = true → (0 : Int) ≤ (IntKind.i64.wrap ((a0.length : Int) - 1)) ∧ (IntKind.i64.wrap ((a0.length : Int) - 1)) < (a0.length : Int)) then (if ((((decide ((a0.length : Int) > 0)) == true) && ((((rd a0 (IntKind.i64.wrap ((a0.length : Int) - 1))).Kind) == 2) == false)) = true → (0 : Int) ≤ (IntKind.i64.wrap ((a0.length : Int) - 1)) ∧ (IntKind.i64.wrap ((a0.length : Int) - 1)) < (a0.length : Int)) then (if ((decide ((a0.length : Int) > 0)) && ((((rd a0 (IntKind.i64.wrap ((a0.length : Int) - 1))).Kind) == 2) || (((rd a0 (IntKind.i64.wrap ((a0.length : Int) - 1))).Kind) == 3))) = true then (if (0 : Int) ≤ 0 ∧ 0 ≤ (IntKind.i64.wrap ((a0.length : Int) - 1)) ∧ (IntKind.i64.wrap ((a0.length : Int) - 1)) ≤ (a0.length : Int) then (if (0 : Int) ≤ (IntKind.i64.wrap ((a0.length : Int) - 1)) ∧ (IntKind.i64.wrap ((a0.length : Int) - 1)) < (a0.length : Int) then some ((sl a0 0 (IntKind.i64.wrap ((a0.length : Int) - 1))), (rd a0 (IntKind.i64.wrap ((a0.length : Int) - 1)))) else none) else none) else some (a0, (T_api_Step.mk 0 false (T_api_Name.mk ([] : Str) ([] : Str)) 0 false (T_api_Name.mk ([] : Str) ([] : Str)) ([] : Str)))) else none) else none)
theorem watchbillref12_Split.ok {a0 : List T_api_Step} {r : (List T_api_Step) × T_api_Step} (H : watchbillref12_Split a0 = some r) : Vx.Fn Try.prog 16 [(L 9 e_api_Step a0)] [] (.tup [(L 9 e_api_Step r.1), (.agg (e_api_Step r.2))]) [] := by
  unfold watchbillref12_Split at H
  refine Vx.Fn.of_okR Try.func16 rfl (Nat.le_of_ble_eq_true rfl) ?_
  refine Ok.seq ?_
  refine Ok.region (σ' := ⟨[(0, (L 9 e_api_Step a0)), (3, (.bref 3 0))], [(3, (.box true [(.v (.int .i64 0)), (.v (.bool false)), (S ([] : Str)), (S ([] : Str)), (.v (.int .i64 0)), (.v (.bool false)), (S ([] : Str)), (S ([] : Str)), (S ([] : Str))]))]⟩) ?_ ?_
  · refine OpsOk.cons rfl (.v (VOk.asg (d := (.v (.slice none 0 0))) rfl rfl) rfl) ?_
    refine OpsOk.cons rfl (OpOk.alloc 3 [none, none, none, none, none, none, none, none, none] rfl zo30 rfl rfl) ?_
    exact .done (.mk ⟨.same _, .same _, trivial⟩ ⟨.same _, trivial⟩)
  refine Ok.seq ?_
  refine Ok.region (σ' := ⟨[(0, (L 9 e_api_Step a0)), (3, (.bref 3 0)), (4, (.v (.int .i64 (a0.length : Int))))], [(3, (.box true [(.v (.int .i64 0)), (.v (.bool false)), (S ([] : Str)), (S ([] : Str)), (.v (.int .i64 0)), (.v (.bool false)), (S ([] : Str)), (S ([] : Str)), (S ([] : Str))]))]⟩) ?_ ?_
  · refine OpsOk.cons rfl (.v (VOk.mv (d := (L 9 e_api_Step a0)) rfl rfl) rfl) ?_
    refine OpsOk.cons rfl (.v (VOk.lenL (e := e_api_Step) (xs := a0) rfl Try.underlying28 rfl) rfl) ?_
    refine OpsOk.cons rfl (.v (VOk.asg (d := (.v (.int .i64 (a0.length : Int)))) rfl rfl) rfl) ?_
    exact .done (.mk ⟨.same _, .same _, .same _, trivial⟩ ⟨.same _, trivial⟩)
  refine Ok.seq ?_
  refine Ok.seq ?_
  obtain ⟨c2, H⟩ := assertE H
  obtain ⟨c4, H⟩ := assertE H
  refine Ok.region (σ' := ⟨[(0, (L 9 e_api_Step a0)), (3, (.bref 3 0)), (4, (.v (.int .i64 (a0.length : Int)))), (26, (.v (.bool ((decide ((a0.length : Int) > 0)) && ((((rd a0 (IntKind.i64.wrap ((a0.length : Int) - 1))).Kind) == 2) || (((rd a0 (IntKind.i64.wrap ((a0.length : Int) - 1))).Kind) == 3))))))], [(3, (.box true [(.v (.int .i64 0)), (.v (.bool false)), (S ([] : Str)), (S ([] : Str)), (.v (.int .i64 0)), (.v (.bool false)), (S ([] : Str)), (S ([] : Str)), (S ([] : Str))]))]⟩) ?_ ?_
  · refine OpsOk.cons rfl (.v (VOk.mv (d := (.v (.int .i64 (a0.length : Int)))) rfl rfl) rfl) ?_
    refine OpsOk.cons rfl (.v (VOk.arith (op := .gtr) (k := .i64) (a := (a0.length : Int)) (b := 0) rfl rfl rfl rfl) rfl) ?_
    refine OpsOk.cons rfl (.v (VOk.mv (d := (.v (.bool (decide ((a0.length : Int) > 0))))) rfl rfl) rfl) ?_
    refine OpsOk.consI rfl rfl rfl (.one rfl) rfl (fun hw1 => (VOk.g (VOk.mv (d := (L 9 e_api_Step a0)) rfl rfl))) ?_
    refine OpsOk.consI rfl rfl rfl (.one rfl) rfl (fun hw1 => (VOk.g (VOk.mv (d := (.v (.int .i64 (a0.length : Int)))) rfl rfl))) ?_
    refine OpsOk.consI rfl rfl rfl (.one rfl) rfl (fun hw1 => (GOk.fr (fr' := [(11, (.v (.int .i64 (a0.length : Int))))]) ⟨DLe.of_eq (cT hw1).symm, trivial⟩ (VOk.g (VOk.arith (op := .sub) (k := .i64) (a := (a0.length : Int)) (b := 1) rfl rfl rfl rfl)))) ?_
    refine OpsOk.consI rfl rfl rfl (.one rfl) rfl (fun hw1 => (GOk.fr (fr' := [(10, (L 9 e_api_Step a0)), (12, (.v (.int .i64 (IntKind.i64.wrap ((a0.length : Int) - 1)))))]) ⟨DLe.of_eq (cT hw1).symm, DLe.of_eq (cT hw1).symm, trivial⟩ (VOk.g (VOk.indexL (sz := 9) (e := e_api_Step) (xs := a0) (i := (IntKind.i64.wrap ((a0.length : Int) - 1))) rfl Try.underlying28 sz30 rfl rfl (c2 hw1))))) ?_
    refine OpsOk.consI rfl rfl rfl (.one rfl) rfl (fun hw1 => (GOk.fr (fr' := [(13, (.fp (e_api_Step (rd a0 (IntKind.i64.wrap ((a0.length : Int) - 1)))) 0))]) ⟨DLe.of_eq (cT hw1).symm, trivial⟩ (VOk.g (VOk.to (VOk.fieldFp rfl Try.underlying30 rfl sz3 rfl) rfl)))) ?_
    refine OpsOk.consI rfl rfl rfl (.one rfl) rfl (fun hw1 => (GOk.fr (fr' := [(14, (.fp (e_api_Step (rd a0 (IntKind.i64.wrap ((a0.length : Int) - 1)))) 0))]) ⟨DLe.of_eq (cT hw1).symm, trivial⟩ (VOk.g (VOk.loadFp (d := (.v (.int .i64 ((rd a0 (IntKind.i64.wrap ((a0.length : Int) - 1))).Kind)))) rfl Try.underlying3 rfl rfl rfl)))) ?_
    refine OpsOk.consI rfl rfl rfl (.one rfl) rfl (fun hw1 => (GOk.fr (fr' := [(15, (.v (.int .i64 ((rd a0 (IntKind.i64.wrap ((a0.length : Int) - 1))).Kind))))]) ⟨DLe.of_eq (cT hw1).symm, trivial⟩ (VOk.g (VOk.arith (op := .eql) (k := .i64) (a := (rd a0 (IntKind.i64.wrap ((a0.length : Int) - 1))).Kind) (b := 2) rfl rfl rfl rfl)))) ?_
    refine OpsOk.consI rfl rfl rfl (.one rfl) rfl (fun hw1 => (GOk.fr (fr' := [(16, (.v (.bool (((rd a0 (IntKind.i64.wrap ((a0.length : Int) - 1))).Kind) == 2))))]) ⟨DLe.of_eq (cT hw1).symm, trivial⟩ (VOk.g (VOk.mv (d := (.v (.bool (((rd a0 (IntKind.i64.wrap ((a0.length : Int) - 1))).Kind) == 2)))) rfl rfl)))) ?_
    refine OpsOk.consI rfl rfl rfl (.two rfl) rfl (fun hw3 => (VOk.g (VOk.mv (d := (L 9 e_api_Step a0)) rfl rfl))) ?_
    refine OpsOk.consI rfl rfl rfl (.two rfl) rfl (fun hw3 => (VOk.g (VOk.mv (d := (.v (.int .i64 (a0.length : Int)))) rfl rfl))) ?_
    refine OpsOk.consI rfl rfl rfl (.two rfl) rfl (fun hw3 => (GOk.fr (fr' := [(19, (.v (.int .i64 (a0.length : Int))))]) ⟨DLe.of_eq (cT hw3).symm, trivial⟩ (VOk.g (VOk.arith (op := .sub) (k := .i64) (a := (a0.length : Int)) (b := 1) rfl rfl rfl rfl)))) ?_
    refine OpsOk.consI rfl rfl rfl (.two rfl) rfl (fun hw3 => (GOk.fr (fr' := [(18, (L 9 e_api_Step a0)), (20, (.v (.int .i64 (IntKind.i64.wrap ((a0.length : Int) - 1)))))]) ⟨DLe.of_eq (cT hw3).symm, DLe.of_eq (cT hw3).symm, trivial⟩ (VOk.g (VOk.indexL (sz := 9) (e := e_api_Step) (xs := a0) (i := (IntKind.i64.wrap ((a0.length : Int) - 1))) rfl Try.underlying28 sz30 rfl rfl (c4 hw3))))) ?_
    refine OpsOk.consI rfl rfl rfl (.two rfl) rfl (fun hw3 => (GOk.fr (fr' := [(21, (.fp (e_api_Step (rd a0 (IntKind.i64.wrap ((a0.length : Int) - 1)))) 0))]) ⟨DLe.of_eq (cT hw3).symm, trivial⟩ (VOk.g (VOk.to (VOk.fieldFp rfl Try.underlying30 rfl sz3 rfl) rfl)))) ?_
    refine OpsOk.consI rfl rfl rfl (.two rfl) rfl (fun hw3 => (GOk.fr (fr' := [(22, (.fp (e_api_Step (rd a0 (IntKind.i64.wrap ((a0.length : Int) - 1)))) 0))]) ⟨DLe.of_eq (cT hw3).symm, trivial⟩ (VOk.g (VOk.loadFp (d := (.v (.int .i64 ((rd a0 (IntKind.i64.wrap ((a0.length : Int) - 1))).Kind)))) rfl Try.underlying3 rfl rfl rfl)))) ?_
    refine OpsOk.consI rfl rfl rfl (.two rfl) rfl (fun hw3 => (GOk.fr (fr' := [(23, (.v (.int .i64 ((rd a0 (IntKind.i64.wrap ((a0.length : Int) - 1))).Kind))))]) ⟨DLe.of_eq (cT hw3).symm, trivial⟩ (VOk.g (VOk.arith (op := .eql) (k := .i64) (a := (rd a0 (IntKind.i64.wrap ((a0.length : Int) - 1))).Kind) (b := 3) rfl rfl rfl rfl)))) ?_
    refine OpsOk.consI rfl rfl rfl (.one rfl) rfl (fun hw1 => (VOk.g (VOk.to (VOk.pickI (b := (((rd a0 (IntKind.i64.wrap ((a0.length : Int) - 1))).Kind) == 2)) (p := true) (q := (((rd a0 (IntKind.i64.wrap ((a0.length : Int) - 1))).Kind) == 3)) rfl (cT hw1) (fun hp5 => rfl) (fun hp5 => (cT (and_i hw1 (f_beq hp5))))) (pickOr (((rd a0 (IntKind.i64.wrap ((a0.length : Int) - 1))).Kind) == 2) (((rd a0 (IntKind.i64.wrap ((a0.length : Int) - 1))).Kind) == 3))))) ?_
    refine OpsOk.cons rfl (.v (VOk.to (VOk.pickI (b := (decide ((a0.length : Int) > 0))) (p := ((((rd a0 (IntKind.i64.wrap ((a0.length : Int) - 1))).Kind) == 2) || (((rd a0 (IntKind.i64.wrap ((a0.length : Int) - 1))).Kind) == 3))) (q := false) rfl rfl (fun hp6 => (cT (t_beq hp6))) (fun hp6 => rfl)) (pickAnd (decide ((a0.length : Int) > 0)) ((((rd a0 (IntKind.i64.wrap ((a0.length : Int) - 1))).Kind) == 2) || (((rd a0 (IntKind.i64.wrap ((a0.length : Int) - 1))).Kind) == 3)))) rfl) ?_
    exact .done (.mk ⟨.same _, .same _, .same _, .same _, trivial⟩ ⟨.same _, trivial⟩)
  refine Ok.test (b := ((decide ((a0.length : Int) > 0)) && ((((rd a0 (IntKind.i64.wrap ((a0.length : Int) - 1))).Kind) == 2) || (((rd a0 (IntKind.i64.wrap ((a0.length : Int) - 1))).Kind) == 3)))) rfl (fun hb9 => ?_) (fun hb9 => ?_)
  · replace H := ifT H hb9
    refine Ok.seq ?_
    obtain ⟨c7, H⟩ := assertE H
    obtain ⟨c8, H⟩ := assertE H
    refine Ok.le (σ' := ⟨[(0, (L 9 e_api_Step a0)), (3, (.bref 3 0)), (4, (.v (.int .i64 (a0.length : Int))))], [(3, (.box true [(.v (.int .i64 0)), (.v (.bool false)), (S ([] : Str)), (S ([] : Str)), (.v (.int .i64 0)), (.v (.bool false)), (S ([] : Str)), (S ([] : Str)), (S ([] : Str))]))]⟩) (.mk ⟨.same _, .same _, .same _, trivial⟩ ⟨.same _, trivial⟩) ?_
    refine Ok.drawE2 (σ' := ⟨[(2, (L 9 e_api_Step (sl a0 0 (IntKind.i64.wrap ((a0.length : Int) - 1))))), (3, (.bref 3 0))], [(3, (.box true [(.v (.int .i64 ((rd a0 (IntKind.i64.wrap ((a0.length : Int) - 1))).Kind))), (.v (.bool ((rd a0 (IntKind.i64.wrap ((a0.length : Int) - 1))).Any))), (S ((rd a0 (IntKind.i64.wrap ((a0.length : Int) - 1))).Name.Space)), (S ((rd a0 (IntKind.i64.wrap ((a0.length : Int) - 1))).Name.Local)), (.v (.int .i64 ((rd a0 (IntKind.i64.wrap ((a0.length : Int) - 1))).Pos))), (.v (.bool ((rd a0 (IntKind.i64.wrap ((a0.length : Int) - 1))).By))), (S ((rd a0 (IntKind.i64.wrap ((a0.length : Int) - 1))).Attr.Space)), (S ((rd a0 (IntKind.i64.wrap ((a0.length : Int) - 1))).Attr.Local)), (S ((rd a0 (IntKind.i64.wrap ((a0.length : Int) - 1))).Value))]))]⟩) [⟨true, [(0, (L 9 e_api_Step a0))], [], (L 9 e_api_Step a0), none, false⟩, ⟨true, [(4, (.v (.int .i64 (a0.length : Int))))], [], (.v (.int .i64 (a0.length : Int))), none, false⟩, ⟨true, [(28, (.v (.int .i64 (a0.length : Int))))], [], (.v (.int .i64 (IntKind.i64.wrap ((a0.length : Int) - 1)))), none, false⟩, ⟨true, [(27, (L 9 e_api_Step a0)), (29, (.v (.int .i64 (IntKind.i64.wrap ((a0.length : Int) - 1)))))], [], (L 9 e_api_Step (sl a0 0 (IntKind.i64.wrap ((a0.length : Int) - 1)))), none, false⟩, ⟨true, [(0, (L 9 e_api_Step a0))], [], (L 9 e_api_Step a0), none, false⟩, ⟨true, [(4, (.v (.int .i64 (a0.length : Int))))], [], (.v (.int .i64 (a0.length : Int))), none, false⟩, ⟨true, [(32, (.v (.int .i64 (a0.length : Int))))], [], (.v (.int .i64 (IntKind.i64.wrap ((a0.length : Int) - 1)))), none, false⟩, ⟨true, [(31, (L 9 e_api_Step a0)), (33, (.v (.int .i64 (IntKind.i64.wrap ((a0.length : Int) - 1)))))], [], (.fp (e_api_Step (rd a0 (IntKind.i64.wrap ((a0.length : Int) - 1)))) 0), none, false⟩, ⟨true, [(34, (.fp (e_api_Step (rd a0 (IntKind.i64.wrap ((a0.length : Int) - 1)))) 0))], [], (.agg (e_api_Step (rd a0 (IntKind.i64.wrap ((a0.length : Int) - 1))))), none, false⟩, ⟨true, [(30, (L 9 e_api_Step (sl a0 0 (IntKind.i64.wrap ((a0.length : Int) - 1)))))], [], (L 9 e_api_Step (sl a0 0 (IntKind.i64.wrap ((a0.length : Int) - 1)))), none, false⟩, ⟨true, [(3, (.bref 3 0)), (35, (.agg (e_api_Step (rd a0 (IntKind.i64.wrap ((a0.length : Int) - 1))))))], [(3, (.box true [(.v (.int .i64 0)), (.v (.bool false)), (S ([] : Str)), (S ([] : Str)), (.v (.int .i64 0)), (.v (.bool false)), (S ([] : Str)), (S ([] : Str)), (S ([] : Str))]))], .junk, (some (3, (.box true [(.v (.int .i64 ((rd a0 (IntKind.i64.wrap ((a0.length : Int) - 1))).Kind))), (.v (.bool ((rd a0 (IntKind.i64.wrap ((a0.length : Int) - 1))).Any))), (S ((rd a0 (IntKind.i64.wrap ((a0.length : Int) - 1))).Name.Space)), (S ((rd a0 (IntKind.i64.wrap ((a0.length : Int) - 1))).Name.Local)), (.v (.int .i64 ((rd a0 (IntKind.i64.wrap ((a0.length : Int) - 1))).Pos))), (.v (.bool ((rd a0 (IntKind.i64.wrap ((a0.length : Int) - 1))).By))), (S ((rd a0 (IntKind.i64.wrap ((a0.length : Int) - 1))).Attr.Space)), (S ((rd a0 (IntKind.i64.wrap ((a0.length : Int) - 1))).Attr.Local)), (S ((rd a0 (IntKind.i64.wrap ((a0.length : Int) - 1))).Value))]))), false⟩] [[], [], [1], [0, 2], [], [], [5], [4, 6], [7], [3], [8]] mixed (by kernel_rfl) ?_ ?_
    · refine TxtE2.cons ⟨.same _, trivial⟩ trivial (It2.val rfl rfl (fun T hT => (VOk.g (VOk.mv (d := (L 9 e_api_Step a0)) rfl rfl)))) ?_
      refine TxtE2.cons ⟨.same _, trivial⟩ trivial (It2.val rfl rfl (fun T hT => (VOk.g (VOk.mv (d := (.v (.int .i64 (a0.length : Int)))) rfl rfl)))) ?_
      refine TxtE2.cons ⟨.same _, trivial⟩ trivial (It2.val rfl rfl (fun T hT => (VOk.g (VOk.arith (op := .sub) (k := .i64) (a := (a0.length : Int)) (b := 1) rfl rfl rfl rfl)))) ?_
      refine TxtE2.cons ⟨.same _, .same _, trivial⟩ trivial (It2.val rfl rfl (fun T hT => (VOk.g (VOk.sliceL (e := e_api_Step) (xs := a0) (l := 0) (h := (IntKind.i64.wrap ((a0.length : Int) - 1))) rfl Try.underlying28 sz30 rfl rfl rfl c7)))) ?_
      refine TxtE2.cons ⟨.same _, trivial⟩ trivial (It2.val rfl rfl (fun T hT => (VOk.g (VOk.mv (d := (L 9 e_api_Step a0)) rfl rfl)))) ?_
      refine TxtE2.cons ⟨.same _, trivial⟩ trivial (It2.val rfl rfl (fun T hT => (VOk.g (VOk.mv (d := (.v (.int .i64 (a0.length : Int)))) rfl rfl)))) ?_
      refine TxtE2.cons ⟨.same _, trivial⟩ trivial (It2.val rfl rfl (fun T hT => (VOk.g (VOk.arith (op := .sub) (k := .i64) (a := (a0.length : Int)) (b := 1) rfl rfl rfl rfl)))) ?_
      refine TxtE2.cons ⟨.same _, .same _, trivial⟩ trivial (It2.val rfl rfl (fun T hT => (VOk.g (VOk.indexL (sz := 9) (e := e_api_Step) (xs := a0) (i := (IntKind.i64.wrap ((a0.length : Int) - 1))) rfl Try.underlying28 sz30 rfl rfl c8)))) ?_
      refine TxtE2.cons ⟨.same _, trivial⟩ trivial (It2.val rfl rfl (fun T hT => (VOk.g (VOk.to (d' := (.agg (e_api_Step (rd a0 (IntKind.i64.wrap ((a0.length : Int) - 1)))))) (.loadFpAgg rfl Try.underlying30 rfl sz30 rfl rfl) rfl)))) ?_
      refine TxtE2.cons ⟨.same _, trivial⟩ trivial (It2.val rfl rfl (fun T hT => (VOk.g (VOk.asg (d := (L 9 e_api_Step (sl a0 0 (IntKind.i64.wrap ((a0.length : Int) - 1))))) rfl rfl)))) ?_
      refine TxtE2.cons ⟨.same _, .same _, trivial⟩ ⟨rfl, trivial⟩ (It2.store rfl rfl sz30 rfl rfl rfl rfl rfl rfl rfl) ?_
      exact .done (.mk ⟨.same _, .same _, trivial⟩ ⟨.same _, trivial⟩)
    refine Ok.le (σ' := ⟨[(2, (L 9 e_api_Step (sl a0 0 (IntKind.i64.wrap ((a0.length : Int) - 1))))), (3, (.bref 3 0))], [(3, (.box true [(.v (.int .i64 ((rd a0 (IntKind.i64.wrap ((a0.length : Int) - 1))).Kind))), (.v (.bool ((rd a0 (IntKind.i64.wrap ((a0.length : Int) - 1))).Any))), (S ((rd a0 (IntKind.i64.wrap ((a0.length : Int) - 1))).Name.Space)), (S ((rd a0 (IntKind.i64.wrap ((a0.length : Int) - 1))).Name.Local)), (.v (.int .i64 ((rd a0 (IntKind.i64.wrap ((a0.length : Int) - 1))).Pos))), (.v (.bool ((rd a0 (IntKind.i64.wrap ((a0.length : Int) - 1))).By))), (S ((rd a0 (IntKind.i64.wrap ((a0.length : Int) - 1))).Attr.Space)), (S ((rd a0 (IntKind.i64.wrap ((a0.length : Int) - 1))).Attr.Local)), (S ((rd a0 (IntKind.i64.wrap ((a0.length : Int) - 1))).Value))]))]⟩) (.mk ⟨.same _, .same _, trivial⟩ ⟨.same _, trivial⟩) ?_
    refine Ok.ret ?_
    obtain rfl := Option.some.inj H
    exact ⟨.inl rfl, ⟨_, (.cons (.tmp rfl) (.cons (.cell (VOk.to (d' := (.agg (e_api_Step (rd a0 (IntKind.i64.wrap ((a0.length : Int) - 1)))))) (.loadBAgg rfl Try.underlying30 rfl sz30 rfl rfl rfl) rfl)) .nil)), rfl⟩, trivial⟩
  · replace H := ifF H hb9
    refine Ok.le (σ' := ⟨[(0, (L 9 e_api_Step a0)), (3, (.bref 3 0))], [(3, (.box true [(.v (.int .i64 0)), (.v (.bool false)), (S ([] : Str)), (S ([] : Str)), (.v (.int .i64 0)), (.v (.bool false)), (S ([] : Str)), (S ([] : Str)), (S ([] : Str))]))]⟩) (.mk ⟨.same _, .same _, trivial⟩ ⟨.same _, trivial⟩) ?_
    refine Ok.skip ?_
    refine Ok.seq ?_
    refine Ok.region (σ' := ⟨[(2, (L 9 e_api_Step a0)), (3, (.bref 3 0))], [(3, (.box true [(.v (.int .i64 ((T_api_Step.mk 0 false (T_api_Name.mk ([] : Str) ([] : Str)) 0 false (T_api_Name.mk ([] : Str) ([] : Str)) ([] : Str)).Kind))), (.v (.bool ((T_api_Step.mk 0 false (T_api_Name.mk ([] : Str) ([] : Str)) 0 false (T_api_Name.mk ([] : Str) ([] : Str)) ([] : Str)).Any))), (S ((T_api_Step.mk 0 false (T_api_Name.mk ([] : Str) ([] : Str)) 0 false (T_api_Name.mk ([] : Str) ([] : Str)) ([] : Str)).Name.Space)), (S ((T_api_Step.mk 0 false (T_api_Name.mk ([] : Str) ([] : Str)) 0 false (T_api_Name.mk ([] : Str) ([] : Str)) ([] : Str)).Name.Local)), (.v (.int .i64 ((T_api_Step.mk 0 false (T_api_Name.mk ([] : Str) ([] : Str)) 0 false (T_api_Name.mk ([] : Str) ([] : Str)) ([] : Str)).Pos))), (.v (.bool ((T_api_Step.mk 0 false (T_api_Name.mk ([] : Str) ([] : Str)) 0 false (T_api_Name.mk ([] : Str) ([] : Str)) ([] : Str)).By))), (S ((T_api_Step.mk 0 false (T_api_Name.mk ([] : Str) ([] : Str)) 0 false (T_api_Name.mk ([] : Str) ([] : Str)) ([] : Str)).Attr.Space)), (S ((T_api_Step.mk 0 false (T_api_Name.mk ([] : Str) ([] : Str)) 0 false (T_api_Name.mk ([] : Str) ([] : Str)) ([] : Str)).Attr.Local)), (S ((T_api_Step.mk 0 false (T_api_Name.mk ([] : Str) ([] : Str)) 0 false (T_api_Name.mk ([] : Str) ([] : Str)) ([] : Str)).Value))]))]⟩) ?_ ?_
    · refine OpsOk.cons rfl (.v (VOk.mv (d := (L 9 e_api_Step a0)) rfl rfl) rfl) ?_
      refine OpsOk.cons rfl (.v (VOk.to (d' := (.agg (e_api_Step (T_api_Step.mk 0 false (T_api_Name.mk ([] : Str) ([] : Str)) 0 false (T_api_Name.mk ([] : Str) ([] : Str)) ([] : Str))))) (.build [none, none, none, none, none, none, none, none, none] [(0, 1), (1, 1), (2, 2), (4, 1), (5, 1), (6, 2), (8, 1)] rfl Try.underlying30 (fa30 Try.underlying30) zo30 rfl rfl) rfl) rfl) ?_
      refine OpsOk.cons rfl (.v (VOk.asg (d := (L 9 e_api_Step a0)) rfl rfl) rfl) ?_
      refine OpsOk.cons rfl (OpOk.to (σ2 := St.put ⟨_, (3, (.box true [(.v (.int .i64 ((T_api_Step.mk 0 false (T_api_Name.mk ([] : Str) ([] : Str)) 0 false (T_api_Name.mk ([] : Str) ([] : Str)) ([] : Str)).Kind))), (.v (.bool ((T_api_Step.mk 0 false (T_api_Name.mk ([] : Str) ([] : Str)) 0 false (T_api_Name.mk ([] : Str) ([] : Str)) ([] : Str)).Any))), (S ((T_api_Step.mk 0 false (T_api_Name.mk ([] : Str) ([] : Str)) 0 false (T_api_Name.mk ([] : Str) ([] : Str)) ([] : Str)).Name.Space)), (S ((T_api_Step.mk 0 false (T_api_Name.mk ([] : Str) ([] : Str)) 0 false (T_api_Name.mk ([] : Str) ([] : Str)) ([] : Str)).Name.Local)), (.v (.int .i64 ((T_api_Step.mk 0 false (T_api_Name.mk ([] : Str) ([] : Str)) 0 false (T_api_Name.mk ([] : Str) ([] : Str)) ([] : Str)).Pos))), (.v (.bool ((T_api_Step.mk 0 false (T_api_Name.mk ([] : Str) ([] : Str)) 0 false (T_api_Name.mk ([] : Str) ([] : Str)) ([] : Str)).By))), (S ((T_api_Step.mk 0 false (T_api_Name.mk ([] : Str) ([] : Str)) 0 false (T_api_Name.mk ([] : Str) ([] : Str)) ([] : Str)).Attr.Space)), (S ((T_api_Step.mk 0 false (T_api_Name.mk ([] : Str) ([] : Str)) 0 false (T_api_Name.mk ([] : Str) ([] : Str)) ([] : Str)).Attr.Local)), (S ((T_api_Step.mk 0 false (T_api_Name.mk ([] : Str) ([] : Str)) 0 false (T_api_Name.mk ([] : Str) ([] : Str)) ([] : Str)).Value))])) :: _⟩ _ .junk) (.storeB rfl sz30 rfl rfl rfl rfl rfl) rfl) ?_
      exact .done (.mk ⟨.same _, .same _, trivial⟩ ⟨.same _, trivial⟩)
    refine Ok.le (σ' := ⟨[(2, (L 9 e_api_Step a0)), (3, (.bref 3 0))], [(3, (.box true [(.v (.int .i64 ((T_api_Step.mk 0 false (T_api_Name.mk ([] : Str) ([] : Str)) 0 false (T_api_Name.mk ([] : Str) ([] : Str)) ([] : Str)).Kind))), (.v (.bool ((T_api_Step.mk 0 false (T_api_Name.mk ([] : Str) ([] : Str)) 0 false (T_api_Name.mk ([] : Str) ([] : Str)) ([] : Str)).Any))), (S ((T_api_Step.mk 0 false (T_api_Name.mk ([] : Str) ([] : Str)) 0 false (T_api_Name.mk ([] : Str) ([] : Str)) ([] : Str)).Name.Space)), (S ((T_api_Step.mk 0 false (T_api_Name.mk ([] : Str) ([] : Str)) 0 false (T_api_Name.mk ([] : Str) ([] : Str)) ([] : Str)).Name.Local)), (.v (.int .i64 ((T_api_Step.mk 0 false (T_api_Name.mk ([] : Str) ([] : Str)) 0 false (T_api_Name.mk ([] : Str) ([] : Str)) ([] : Str)).Pos))), (.v (.bool ((T_api_Step.mk 0 false (T_api_Name.mk ([] : Str) ([] : Str)) 0 false (T_api_Name.mk ([] : Str) ([] : Str)) ([] : Str)).By))), (S ((T_api_Step.mk 0 false (T_api_Name.mk ([] : Str) ([] : Str)) 0 false (T_api_Name.mk ([] : Str) ([] : Str)) ([] : Str)).Attr.Space)), (S ((T_api_Step.mk 0 false (T_api_Name.mk ([] : Str) ([] : Str)) 0 false (T_api_Name.mk ([] : Str) ([] : Str)) ([] : Str)).Attr.Local)), (S ((T_api_Step.mk 0 false (T_api_Name.mk ([] : Str) ([] : Str)) 0 false (T_api_Name.mk ([] : Str) ([] : Str)) ([] : Str)).Value))]))]⟩) (.mk ⟨.same _, .same _, trivial⟩ ⟨.same _, trivial⟩) ?_
    refine Ok.ret ?_
    obtain rfl := Option.some.inj H
    exact ⟨.inl rfl, ⟨_, (.cons (.tmp rfl) (.cons (.cell (VOk.to (d' := (.agg (e_api_Step (T_api_Step.mk 0 false (T_api_Name.mk ([] : Str) ([] : Str)) 0 false (T_api_Name.mk ([] : Str) ([] : Str)) ([] : Str))))) (.loadBAgg rfl Try.underlying30 rfl sz30 rfl rfl rfl) rfl)) .nil)), rfl⟩, trivial⟩

/-! watchbill/watchbillref06.At: function 36 -/
def watchbillref06_At : Nat → T_api_Node → List Int → Option (T_api_Node × Bool)
  | 0, _, _ => none
  | k + 1, a0, a1 => (if ((a1.length : Int) == 0) = true then some (a0, true) else (if (0 : Int) ≤ 0 ∧ 0 < (a1.length : Int) then (if (((decide ((rd a1 0) < 0)) == false) = true → (0 : Int) ≤ 0 ∧ 0 < (a1.length : Int)) then (if ((decide ((rd a1 0) < 0)) || (decide ((rd a1 0) ≥ (a0.Kids.length : Int)))) = true then some ((T_api_Node.mk 0 (T_api_Name.mk ([] : Str) ([] : Str)) ([] : List T_api_Attr) ([] : List T_api_Node) ([] : Str)), false) else (if (0 : Int) ≤ 0 ∧ 0 < (a1.length : Int) then (if (0 : Int) ≤ (rd a1 0) ∧ (rd a1 0) < (a0.Kids.length : Int) then (if (0 : Int) ≤ 1 ∧ 1 ≤ (a1.length : Int) ∧ (a1.length : Int) ≤ (a1.length : Int) then (((watchbillref06_At k) (rd a0.Kids (rd a1 0)) (sl a1 1 (a1.length : Int))).bind fun (t8 : T_api_Node × Bool) => some (t8.1, t8.2)) else none) else none) else none)) else none) else none))
theorem watchbillref06_At.ok {k : Nat} {a0 : T_api_Node} {a1 : List Int} {r : T_api_Node × Bool} (H : watchbillref06_At k a0 a1 = some r) : Vx.Fn Try.prog 36 [(.agg (e_api_Node a0)), (L 1 (eI .i64) a1)] [] (.tup [(.agg (e_api_Node r.1)), (.v (.bool r.2))]) [] := by
  induction k generalizing a0 a1 r with
  | zero => exact absurd H (by simp [watchbillref06_At])
  | succ k ih =>
    unfold watchbillref06_At at H
    refine Vx.Fn.of_okR Try.func36 rfl (Nat.le_of_ble_eq_true rfl) ?_
    refine Ok.seq ?_
    refine Ok.region (σ' := ⟨[(1, (L 1 (eI .i64) a1)), (2, (.bref 2 0)), (4, (.bref 4 0))], [(2, (.box true [(.v (.int .i64 a0.Kind)), (S a0.Name.Space), (S a0.Name.Local), (L 3 e_api_Attr a0.Attrs), (L 6 e_api_Node a0.Kids), (S a0.Text)])), (4, (.box true [(.v (.int .i64 0)), (S ([] : Str)), (S ([] : Str)), (L 3 e_api_Attr ([] : List T_api_Attr)), (L 6 e_api_Node ([] : List T_api_Node)), (S ([] : Str))]))]⟩) ?_ ?_
    · refine OpsOk.cut (σ := ⟨[(0, (.agg [(.v (.int .i64 a0.Kind)), (S a0.Name.Space), (S a0.Name.Local), (L 3 e_api_Attr a0.Attrs), (L 6 e_api_Node a0.Kids), (S a0.Text)])), (1, (L 1 (eI .i64) a1))], []⟩) (.mk ⟨DLe.of_eq (congrArg D.agg (e_api_Node_c _).symm), .same _, trivial⟩ trivial) ?_
      refine OpsOk.cons rfl (OpOk.box 2 (cells := [(.v (.int .i64 a0.Kind)), (S a0.Name.Space), (S a0.Name.Local), (L 3 e_api_Attr a0.Attrs), (L 6 e_api_Node a0.Kids), (S a0.Text)]) rfl rfl rfl rfl) ?_
      refine OpsOk.cons rfl (OpOk.alloc 4 [none, none, none, some 3, some 6, none] rfl zo27 rfl rfl) ?_
      refine OpsOk.cons rfl (.v (VOk.asg (d := (.v (.bool false))) rfl rfl) rfl) ?_
      exact .done (.mk ⟨.same _, .same _, .same _, trivial⟩ ⟨.same _, .same _, trivial⟩)
    refine Ok.seq ?_
    refine Ok.seq ?_
    refine Ok.region (σ' := ⟨[(1, (L 1 (eI .i64) a1)), (2, (.bref 2 0)), (4, (.bref 4 0)), (8, (.v (.bool ((a1.length : Int) == 0))))], [(2, (.box true [(.v (.int .i64 a0.Kind)), (S a0.Name.Space), (S a0.Name.Local), (L 3 e_api_Attr a0.Attrs), (L 6 e_api_Node a0.Kids), (S a0.Text)])), (4, (.box true [(.v (.int .i64 0)), (S ([] : Str)), (S ([] : Str)), (L 3 e_api_Attr ([] : List T_api_Attr)), (L 6 e_api_Node ([] : List T_api_Node)), (S ([] : Str))]))]⟩) ?_ ?_
    · refine OpsOk.cons rfl (.v (VOk.mv (d := (L 1 (eI .i64) a1)) rfl rfl) rfl) ?_
      refine OpsOk.cons rfl (.v (VOk.lenL (e := (eI .i64)) (xs := a1) rfl Try.underlying39 rfl) rfl) ?_
      refine OpsOk.cons rfl (.v (VOk.arith (op := .eql) (k := .i64) (a := (a1.length : Int)) (b := 0) rfl rfl rfl rfl) rfl) ?_
      exact .done (.mk ⟨.same _, .same _, .same _, .same _, trivial⟩ ⟨.same _, .same _, trivial⟩)
    refine Ok.test (b := ((a1.length : Int) == 0)) rfl (fun hb11 => ?_) (fun hb11 => ?_)
    · replace H := ifT H hb11
      refine Ok.seq ?_
      refine Ok.region (σ' := ⟨[(4, (.bref 4 0)), (5, (.v (.bool true)))], [(4, (.box true [(.v (.int .i64 a0.Kind)), (S a0.Name.Space), (S a0.Name.Local), (L 3 e_api_Attr a0.Attrs), (L 6 e_api_Node a0.Kids), (S a0.Text)]))]⟩) ?_ ?_
      · refine OpsOk.cons rfl (.v (VOk.to (d' := (.agg (e_api_Node a0))) (.loadBAgg rfl Try.underlying27 rfl sz27 rfl rfl rfl) (congrArg D.agg (e_api_Node_c a0).symm)) rfl) ?_
        refine OpsOk.cut (σ := ⟨[(1, (L 1 (eI .i64) a1)), (2, (.bref 2 0)), (4, (.bref 4 0)), (8, (.v (.bool ((a1.length : Int) == 0)))), (9, (.agg [(.v (.int .i64 a0.Kind)), (S a0.Name.Space), (S a0.Name.Local), (L 3 e_api_Attr a0.Attrs), (L 6 e_api_Node a0.Kids), (S a0.Text)]))], [(2, (.box true [(.v (.int .i64 a0.Kind)), (S a0.Name.Space), (S a0.Name.Local), (L 3 e_api_Attr a0.Attrs), (L 6 e_api_Node a0.Kids), (S a0.Text)])), (4, (.box true [(.v (.int .i64 0)), (S ([] : Str)), (S ([] : Str)), (L 3 e_api_Attr ([] : List T_api_Attr)), (L 6 e_api_Node ([] : List T_api_Node)), (S ([] : Str))]))]⟩) (.mk ⟨.same _, .same _, .same _, .same _, DLe.of_eq (congrArg D.agg (e_api_Node_c _).symm), trivial⟩ ⟨.same _, .same _, trivial⟩) ?_
        refine OpsOk.cons rfl (OpOk.to (σ2 := St.put ⟨_, (4, (.box true [(.v (.int .i64 a0.Kind)), (S a0.Name.Space), (S a0.Name.Local), (L 3 e_api_Attr a0.Attrs), (L 6 e_api_Node a0.Kids), (S a0.Text)])) :: _⟩ _ .junk) (.storeB rfl sz27 rfl rfl rfl rfl rfl) rfl) ?_
        refine OpsOk.cons rfl (.v (VOk.asg (d := (.v (.bool true))) rfl rfl) rfl) ?_
        exact .done (.mk ⟨.same _, .same _, trivial⟩ ⟨.same _, trivial⟩)
      refine Ok.le (σ' := ⟨[(4, (.bref 4 0)), (5, (.v (.bool true)))], [(4, (.box true [(.v (.int .i64 a0.Kind)), (S a0.Name.Space), (S a0.Name.Local), (L 3 e_api_Attr a0.Attrs), (L 6 e_api_Node a0.Kids), (S a0.Text)]))]⟩) (.mk ⟨.same _, .same _, trivial⟩ ⟨.same _, trivial⟩) ?_
      refine Ok.ret ?_
      obtain rfl := Option.some.inj H
      exact ⟨.inl rfl, ⟨_, (.cons (.cell (VOk.to (d' := (.agg (e_api_Node a0))) (.loadBAgg rfl Try.underlying27 rfl sz27 rfl rfl rfl) (congrArg D.agg (e_api_Node_c a0).symm))) (.cons (.tmp rfl) .nil)), rfl⟩, trivial⟩
    · replace H := ifF H hb11
      refine Ok.le (σ' := ⟨[(1, (L 1 (eI .i64) a1)), (2, (.bref 2 0)), (4, (.bref 4 0))], [(2, (.box true [(.v (.int .i64 a0.Kind)), (S a0.Name.Space), (S a0.Name.Local), (L 3 e_api_Attr a0.Attrs), (L 6 e_api_Node a0.Kids), (S a0.Text)])), (4, (.box true [(.v (.int .i64 0)), (S ([] : Str)), (S ([] : Str)), (L 3 e_api_Attr ([] : List T_api_Attr)), (L 6 e_api_Node ([] : List T_api_Node)), (S ([] : Str))]))]⟩) (.mk ⟨.same _, .same _, .same _, trivial⟩ ⟨.same _, .same _, trivial⟩) ?_
      refine Ok.skip ?_
      refine Ok.seq ?_
      refine Ok.seq ?_
      obtain ⟨c1, H⟩ := assertE H
      obtain ⟨c3, H⟩ := assertE H
      refine Ok.drawE (σ' := ⟨[(1, (L 1 (eI .i64) a1)), (2, (.bref 2 0)), (4, (.bref 4 0)), (22, (.v (.bool ((decide ((rd a1 0) < 0)) || (decide ((rd a1 0) ≥ (a0.Kids.length : Int)))))))], [(2, (.box true [(.v (.int .i64 a0.Kind)), (S a0.Name.Space), (S a0.Name.Local), (L 3 e_api_Attr a0.Attrs), (L 6 e_api_Node a0.Kids), (S a0.Text)])), (4, (.box true [(.v (.int .i64 0)), (S ([] : Str)), (S ([] : Str)), (L 3 e_api_Attr ([] : List T_api_Attr)), (L 6 e_api_Node ([] : List T_api_Node)), (S ([] : Str))]))]⟩) [⟨true, [(1, (L 1 (eI .i64) a1))], (L 1 (eI .i64) a1)⟩, ⟨true, [(10, (L 1 (eI .i64) a1))], (.fp ((eI .i64) (rd a1 0)) 0)⟩, ⟨true, [(11, (.fp ((eI .i64) (rd a1 0)) 0))], (.v (.int .i64 (rd a1 0)))⟩, ⟨true, [(12, (.v (.int .i64 (rd a1 0))))], (.v (.bool (decide ((rd a1 0) < 0))))⟩, ⟨true, [(13, (.v (.bool (decide ((rd a1 0) < 0)))))], (.v (.bool (decide ((rd a1 0) < 0))))⟩, It.I ((decide ((rd a1 0) < 0)) == false) [(1, (L 1 (eI .i64) a1)), (14, (.v (.bool (decide ((rd a1 0) < 0)))))] (L 1 (eI .i64) a1), It.I ((decide ((rd a1 0) < 0)) == false) [(15, (bif ((decide ((rd a1 0) < 0)) == false) then (L 1 (eI .i64) a1) else .v undef)), (14, (.v (.bool (decide ((rd a1 0) < 0)))))] (.fp ((eI .i64) (rd a1 0)) 0), It.I ((decide ((rd a1 0) < 0)) == false) [(16, (bif ((decide ((rd a1 0) < 0)) == false) then (.fp ((eI .i64) (rd a1 0)) 0) else .v undef)), (14, (.v (.bool (decide ((rd a1 0) < 0)))))] (.v (.int .i64 (rd a1 0))), It.I ((decide ((rd a1 0) < 0)) == false) [(2, (.bref 2 0)), (14, (.v (.bool (decide ((rd a1 0) < 0)))))] (.bref 2 4), It.I ((decide ((rd a1 0) < 0)) == false) [(18, (bif ((decide ((rd a1 0) < 0)) == false) then (.bref 2 4) else .v undef)), (14, (.v (.bool (decide ((rd a1 0) < 0)))))] (L 6 e_api_Node a0.Kids), It.I ((decide ((rd a1 0) < 0)) == false) [(19, (bif ((decide ((rd a1 0) < 0)) == false) then (L 6 e_api_Node a0.Kids) else .v undef)), (14, (.v (.bool (decide ((rd a1 0) < 0)))))] (.v (.int .i64 (a0.Kids.length : Int))), It.I ((decide ((rd a1 0) < 0)) == false) [(17, (bif ((decide ((rd a1 0) < 0)) == false) then (.v (.int .i64 (rd a1 0))) else .v undef)), (20, (bif ((decide ((rd a1 0) < 0)) == false) then (.v (.int .i64 (a0.Kids.length : Int))) else .v undef)), (14, (.v (.bool (decide ((rd a1 0) < 0)))))] (.v (.bool (decide ((rd a1 0) ≥ (a0.Kids.length : Int))))), ⟨true, [(14, (.v (.bool (decide ((rd a1 0) < 0))))), (21, (bif ((decide ((rd a1 0) < 0)) == false) then (.v (.bool (decide ((rd a1 0) ≥ (a0.Kids.length : Int))))) else .v undef))], (.v (.bool ((decide ((rd a1 0) < 0)) || (decide ((rd a1 0) ≥ (a0.Kids.length : Int))))))⟩] [[], [0], [1], [2], [3], [4], [4, 5], [4, 6], [4], [4, 8], [4, 9], [4, 7, 10], [4, 11]] mixed (by kernel_rfl) ?_ ?_
      · refine TxtE.cons rfl ⟨.same _, trivial⟩ rfl (VOk.g (VOk.mv (d := (L 1 (eI .i64) a1)) rfl rfl)) ?_
        refine TxtE.cons rfl ⟨.same _, trivial⟩ rfl (VOk.g (VOk.indexL (sz := 1) (e := (eI .i64)) (xs := a1) (i := 0) rfl Try.underlying39 sz3 rfl rfl c1)) ?_
        refine TxtE.cons rfl ⟨.same _, trivial⟩ rfl (VOk.g (VOk.loadFp (d := (.v (.int .i64 (rd a1 0)))) rfl Try.underlying3 rfl rfl rfl)) ?_
        refine TxtE.cons rfl ⟨.same _, trivial⟩ rfl (VOk.g (VOk.arith (op := .lss) (k := .i64) (a := (rd a1 0)) (b := 0) rfl rfl rfl rfl)) ?_
        refine TxtE.cons rfl ⟨.same _, trivial⟩ rfl (VOk.g (VOk.mv (d := (.v (.bool (decide ((rd a1 0) < 0))))) rfl rfl)) ?_
        refine TxtE.consI rfl ⟨.same _, .same _, trivial⟩ rfl rfl (.one rfl) (fun hw2 => (VOk.g (VOk.mv (d := (L 1 (eI .i64) a1)) rfl rfl))) ?_
        refine TxtE.consI rfl ⟨.same _, .same _, trivial⟩ rfl rfl (.one rfl) (fun hw2 => (GOk.fr (fr' := [(15, (L 1 (eI .i64) a1))]) ⟨DLe.of_eq (cT hw2).symm, trivial⟩ (VOk.g (VOk.indexL (sz := 1) (e := (eI .i64)) (xs := a1) (i := 0) rfl Try.underlying39 sz3 rfl rfl (c3 hw2))))) ?_
        refine TxtE.consI rfl ⟨.same _, .same _, trivial⟩ rfl rfl (.one rfl) (fun hw2 => (GOk.fr (fr' := [(16, (.fp ((eI .i64) (rd a1 0)) 0))]) ⟨DLe.of_eq (cT hw2).symm, trivial⟩ (VOk.g (VOk.loadFp (d := (.v (.int .i64 (rd a1 0)))) rfl Try.underlying3 rfl rfl rfl)))) ?_
        refine TxtE.consI rfl ⟨.same _, .same _, trivial⟩ rfl rfl (.one rfl) (fun hw2 => (VOk.g (VOk.to (VOk.fieldB rfl Try.underlying27 rfl sz25 rfl rfl) rfl))) ?_
        refine TxtE.consI rfl ⟨.same _, .same _, trivial⟩ rfl rfl (.one rfl) (fun hw2 => (GOk.fr (fr' := [(18, (.bref 2 4))]) ⟨DLe.of_eq (cT hw2).symm, trivial⟩ (VOk.g (VOk.loadB (d := (L 6 e_api_Node a0.Kids)) rfl Try.underlying25 rfl rfl rfl rfl)))) ?_
        refine TxtE.consI rfl ⟨.same _, .same _, trivial⟩ rfl rfl (.one rfl) (fun hw2 => (GOk.fr (fr' := [(19, (L 6 e_api_Node a0.Kids))]) ⟨DLe.of_eq (cT hw2).symm, trivial⟩ (VOk.g (VOk.lenL (e := e_api_Node) (xs := a0.Kids) rfl Try.underlying25 rfl)))) ?_
        refine TxtE.consI rfl ⟨.same _, .same _, .same _, trivial⟩ rfl rfl (.one rfl) (fun hw2 => (GOk.fr (fr' := [(17, (.v (.int .i64 (rd a1 0)))), (20, (.v (.int .i64 (a0.Kids.length : Int))))]) ⟨DLe.of_eq (cT hw2).symm, DLe.of_eq (cT hw2).symm, trivial⟩ (VOk.g (VOk.arith (op := .geq) (k := .i64) (a := (rd a1 0)) (b := (a0.Kids.length : Int)) rfl rfl rfl rfl)))) ?_
        refine TxtE.cons rfl ⟨.same _, .same _, trivial⟩ rfl (VOk.g (VOk.to (VOk.pickI (b := (decide ((rd a1 0) < 0))) (p := true) (q := (decide ((rd a1 0) ≥ (a0.Kids.length : Int)))) rfl rfl (fun hp4 => rfl) (fun hp4 => (cT (f_beq hp4)))) (pickOr (decide ((rd a1 0) < 0)) (decide ((rd a1 0) ≥ (a0.Kids.length : Int)))))) ?_
        exact .done (.mk ⟨.same _, .same _, .same _, .same _, trivial⟩ ⟨.same _, .same _, trivial⟩)
      refine Ok.test (b := ((decide ((rd a1 0) < 0)) || (decide ((rd a1 0) ≥ (a0.Kids.length : Int))))) rfl (fun hb10 => ?_) (fun hb10 => ?_)
      · replace H := ifT H hb10
        refine Ok.seq ?_
        refine Ok.region (σ' := ⟨[(4, (.bref 4 0)), (5, (.v (.bool false)))], [(4, (.box true [(.v (.int .i64 ((T_api_Node.mk 0 (T_api_Name.mk ([] : Str) ([] : Str)) ([] : List T_api_Attr) ([] : List T_api_Node) ([] : Str)).Kind))), (S ((T_api_Node.mk 0 (T_api_Name.mk ([] : Str) ([] : Str)) ([] : List T_api_Attr) ([] : List T_api_Node) ([] : Str)).Name.Space)), (S ((T_api_Node.mk 0 (T_api_Name.mk ([] : Str) ([] : Str)) ([] : List T_api_Attr) ([] : List T_api_Node) ([] : Str)).Name.Local)), (L 3 e_api_Attr ((T_api_Node.mk 0 (T_api_Name.mk ([] : Str) ([] : Str)) ([] : List T_api_Attr) ([] : List T_api_Node) ([] : Str)).Attrs)), (L 6 e_api_Node ((T_api_Node.mk 0 (T_api_Name.mk ([] : Str) ([] : Str)) ([] : List T_api_Attr) ([] : List T_api_Node) ([] : Str)).Kids)), (S ((T_api_Node.mk 0 (T_api_Name.mk ([] : Str) ([] : Str)) ([] : List T_api_Attr) ([] : List T_api_Node) ([] : Str)).Text))]))]⟩) ?_ ?_
        · refine OpsOk.cons rfl (.v (VOk.to (d' := (.agg (e_api_Node (T_api_Node.mk 0 (T_api_Name.mk ([] : Str) ([] : Str)) ([] : List T_api_Attr) ([] : List T_api_Node) ([] : Str))))) (.build [none, none, none, some 3, some 6, none] [(0, 1), (1, 2), (3, 1), (4, 1), (5, 1)] rfl Try.underlying27 (fa27 Try.underlying27) zo27 rfl rfl) (congrArg D.agg (e_api_Node_c (T_api_Node.mk 0 (T_api_Name.mk ([] : Str) ([] : Str)) ([] : List T_api_Attr) ([] : List T_api_Node) ([] : Str))).symm)) rfl) ?_
          refine OpsOk.cut (σ := ⟨[(1, (L 1 (eI .i64) a1)), (2, (.bref 2 0)), (4, (.bref 4 0)), (22, (.v (.bool ((decide ((rd a1 0) < 0)) || (decide ((rd a1 0) ≥ (a0.Kids.length : Int))))))), (23, (.agg [(.v (.int .i64 ((T_api_Node.mk 0 (T_api_Name.mk ([] : Str) ([] : Str)) ([] : List T_api_Attr) ([] : List T_api_Node) ([] : Str)).Kind))), (S ((T_api_Node.mk 0 (T_api_Name.mk ([] : Str) ([] : Str)) ([] : List T_api_Attr) ([] : List T_api_Node) ([] : Str)).Name.Space)), (S ((T_api_Node.mk 0 (T_api_Name.mk ([] : Str) ([] : Str)) ([] : List T_api_Attr) ([] : List T_api_Node) ([] : Str)).Name.Local)), (L 3 e_api_Attr ((T_api_Node.mk 0 (T_api_Name.mk ([] : Str) ([] : Str)) ([] : List T_api_Attr) ([] : List T_api_Node) ([] : Str)).Attrs)), (L 6 e_api_Node ((T_api_Node.mk 0 (T_api_Name.mk ([] : Str) ([] : Str)) ([] : List T_api_Attr) ([] : List T_api_Node) ([] : Str)).Kids)), (S ((T_api_Node.mk 0 (T_api_Name.mk ([] : Str) ([] : Str)) ([] : List T_api_Attr) ([] : List T_api_Node) ([] : Str)).Text))]))], [(2, (.box true [(.v (.int .i64 a0.Kind)), (S a0.Name.Space), (S a0.Name.Local), (L 3 e_api_Attr a0.Attrs), (L 6 e_api_Node a0.Kids), (S a0.Text)])), (4, (.box true [(.v (.int .i64 0)), (S ([] : Str)), (S ([] : Str)), (L 3 e_api_Attr ([] : List T_api_Attr)), (L 6 e_api_Node ([] : List T_api_Node)), (S ([] : Str))]))]⟩) (.mk ⟨.same _, .same _, .same _, .same _, DLe.of_eq (congrArg D.agg (e_api_Node_c _).symm), trivial⟩ ⟨.same _, .same _, trivial⟩) ?_
          refine OpsOk.cons rfl (OpOk.to (σ2 := St.put ⟨_, (4, (.box true [(.v (.int .i64 ((T_api_Node.mk 0 (T_api_Name.mk ([] : Str) ([] : Str)) ([] : List T_api_Attr) ([] : List T_api_Node) ([] : Str)).Kind))), (S ((T_api_Node.mk 0 (T_api_Name.mk ([] : Str) ([] : Str)) ([] : List T_api_Attr) ([] : List T_api_Node) ([] : Str)).Name.Space)), (S ((T_api_Node.mk 0 (T_api_Name.mk ([] : Str) ([] : Str)) ([] : List T_api_Attr) ([] : List T_api_Node) ([] : Str)).Name.Local)), (L 3 e_api_Attr ((T_api_Node.mk 0 (T_api_Name.mk ([] : Str) ([] : Str)) ([] : List T_api_Attr) ([] : List T_api_Node) ([] : Str)).Attrs)), (L 6 e_api_Node ((T_api_Node.mk 0 (T_api_Name.mk ([] : Str) ([] : Str)) ([] : List T_api_Attr) ([] : List T_api_Node) ([] : Str)).Kids)), (S ((T_api_Node.mk 0 (T_api_Name.mk ([] : Str) ([] : Str)) ([] : List T_api_Attr) ([] : List T_api_Node) ([] : Str)).Text))])) :: _⟩ _ .junk) (.storeB rfl sz27 rfl rfl rfl rfl rfl) rfl) ?_
          refine OpsOk.cons rfl (.v (VOk.asg (d := (.v (.bool false))) rfl rfl) rfl) ?_
          exact .done (.mk ⟨.same _, .same _, trivial⟩ ⟨.same _, trivial⟩)
        refine Ok.le (σ' := ⟨[(4, (.bref 4 0)), (5, (.v (.bool false)))], [(4, (.box true [(.v (.int .i64 ((T_api_Node.mk 0 (T_api_Name.mk ([] : Str) ([] : Str)) ([] : List T_api_Attr) ([] : List T_api_Node) ([] : Str)).Kind))), (S ((T_api_Node.mk 0 (T_api_Name.mk ([] : Str) ([] : Str)) ([] : List T_api_Attr) ([] : List T_api_Node) ([] : Str)).Name.Space)), (S ((T_api_Node.mk 0 (T_api_Name.mk ([] : Str) ([] : Str)) ([] : List T_api_Attr) ([] : List T_api_Node) ([] : Str)).Name.Local)), (L 3 e_api_Attr ((T_api_Node.mk 0 (T_api_Name.mk ([] : Str) ([] : Str)) ([] : List T_api_Attr) ([] : List T_api_Node) ([] : Str)).Attrs)), (L 6 e_api_Node ((T_api_Node.mk 0 (T_api_Name.mk ([] : Str) ([] : Str)) ([] : List T_api_Attr) ([] : List T_api_Node) ([] : Str)).Kids)), (S ((T_api_Node.mk 0 (T_api_Name.mk ([] : Str) ([] : Str)) ([] : List T_api_Attr) ([] : List T_api_Node) ([] : Str)).Text))]))]⟩) (.mk ⟨.same _, .same _, trivial⟩ ⟨.same _, trivial⟩) ?_
        refine Ok.ret ?_
        obtain rfl := Option.some.inj H
        exact ⟨.inl rfl, ⟨_, (.cons (.cell (VOk.to (d' := (.agg (e_api_Node (T_api_Node.mk 0 (T_api_Name.mk ([] : Str) ([] : Str)) ([] : List T_api_Attr) ([] : List T_api_Node) ([] : Str))))) (.loadBAgg rfl Try.underlying27 rfl sz27 rfl rfl rfl) (congrArg D.agg (e_api_Node_c (T_api_Node.mk 0 (T_api_Name.mk ([] : Str) ([] : Str)) ([] : List T_api_Attr) ([] : List T_api_Node) ([] : Str))).symm))) (.cons (.tmp rfl) .nil)), rfl⟩, trivial⟩
      · replace H := ifF H hb10
        refine Ok.le (σ' := ⟨[(1, (L 1 (eI .i64) a1)), (2, (.bref 2 0)), (4, (.bref 4 0))], [(2, (.box true [(.v (.int .i64 a0.Kind)), (S a0.Name.Space), (S a0.Name.Local), (L 3 e_api_Attr a0.Attrs), (L 6 e_api_Node a0.Kids), (S a0.Text)])), (4, (.box true [(.v (.int .i64 0)), (S ([] : Str)), (S ([] : Str)), (L 3 e_api_Attr ([] : List T_api_Attr)), (L 6 e_api_Node ([] : List T_api_Node)), (S ([] : Str))]))]⟩) (.mk ⟨.same _, .same _, .same _, trivial⟩ ⟨.same _, .same _, trivial⟩) ?_
        refine Ok.skip ?_
        refine Ok.seq ?_
        obtain ⟨c5, H⟩ := assertE H
        obtain ⟨c6, H⟩ := assertE H
        obtain ⟨c7, H⟩ := assertE H
        obtain ⟨t8, h9, H⟩ := bindE H
        refine Ok.le (σ' := ⟨[(1, (L 1 (eI .i64) a1)), (2, (.bref 2 0)), (4, (.bref 4 0))], [(2, (.box true [(.v (.int .i64 a0.Kind)), (S a0.Name.Space), (S a0.Name.Local), (L 3 e_api_Attr a0.Attrs), (L 6 e_api_Node a0.Kids), (S a0.Text)])), (4, (.box true [(.v (.int .i64 0)), (S ([] : Str)), (S ([] : Str)), (L 3 e_api_Attr ([] : List T_api_Attr)), (L 6 e_api_Node ([] : List T_api_Node)), (S ([] : Str))]))]⟩) (.mk ⟨.same _, .same _, .same _, trivial⟩ ⟨.same _, .same _, trivial⟩) ?_
        refine Ok.drawE2 (σ' := ⟨[(4, (.bref 4 0)), (5, (.v (.bool t8.2)))], [(4, (.box true [(.v (.int .i64 t8.1.Kind)), (S t8.1.Name.Space), (S t8.1.Name.Local), (L 3 e_api_Attr t8.1.Attrs), (L 6 e_api_Node t8.1.Kids), (S t8.1.Text)]))]⟩) [⟨true, [(2, (.bref 2 0))], [(2, (.box true [(.v (.int .i64 a0.Kind)), (S a0.Name.Space), (S a0.Name.Local), (L 3 e_api_Attr a0.Attrs), (L 6 e_api_Node a0.Kids), (S a0.Text)]))], (.bref 2 4), none, false⟩, ⟨true, [(24, (.bref 2 4))], [(2, (.box true [(.v (.int .i64 a0.Kind)), (S a0.Name.Space), (S a0.Name.Local), (L 3 e_api_Attr a0.Attrs), (L 6 e_api_Node a0.Kids), (S a0.Text)]))], (L 6 e_api_Node a0.Kids), none, false⟩, ⟨true, [(1, (L 1 (eI .i64) a1))], [], (L 1 (eI .i64) a1), none, false⟩, ⟨true, [(26, (L 1 (eI .i64) a1))], [], (.fp ((eI .i64) (rd a1 0)) 0), none, false⟩, ⟨true, [(27, (.fp ((eI .i64) (rd a1 0)) 0))], [], (.v (.int .i64 (rd a1 0))), none, false⟩, ⟨true, [(25, (L 6 e_api_Node a0.Kids)), (28, (.v (.int .i64 (rd a1 0))))], [], (.fp (e_api_Node (rd a0.Kids (rd a1 0))) 0), none, false⟩, ⟨true, [(29, (.fp (e_api_Node (rd a0.Kids (rd a1 0))) 0))], [], (.agg (e_api_Node (rd a0.Kids (rd a1 0)))), none, false⟩, ⟨true, [(1, (L 1 (eI .i64) a1))], [], (L 1 (eI .i64) a1), none, false⟩, ⟨true, [(31, (L 1 (eI .i64) a1))], [], (L 1 (eI .i64) (sl a1 1 (a1.length : Int))), none, false⟩, ⟨true, [(30, (.agg (e_api_Node (rd a0.Kids (rd a1 0))))), (32, (L 1 (eI .i64) (sl a1 1 (a1.length : Int))))], [], (.tup [(.agg (e_api_Node t8.1)), (.v (.bool t8.2))]), none, false⟩, ⟨true, [(33, (.tup [(.agg (e_api_Node t8.1)), (.v (.bool t8.2))]))], [], (.agg (e_api_Node t8.1)), none, false⟩, ⟨true, [(33, (.tup [(.agg (e_api_Node t8.1)), (.v (.bool t8.2))]))], [], (.v (.bool t8.2)), none, false⟩, ⟨true, [(4, (.bref 4 0)), (34, (.agg [(.v (.int .i64 t8.1.Kind)), (S t8.1.Name.Space), (S t8.1.Name.Local), (L 3 e_api_Attr t8.1.Attrs), (L 6 e_api_Node t8.1.Kids), (S t8.1.Text)]))], [(4, (.box true [(.v (.int .i64 0)), (S ([] : Str)), (S ([] : Str)), (L 3 e_api_Attr ([] : List T_api_Attr)), (L 6 e_api_Node ([] : List T_api_Node)), (S ([] : Str))]))], .junk, (some (4, (.box true [(.v (.int .i64 t8.1.Kind)), (S t8.1.Name.Space), (S t8.1.Name.Local), (L 3 e_api_Attr t8.1.Attrs), (L 6 e_api_Node t8.1.Kids), (S t8.1.Text)]))), false⟩, ⟨true, [(35, (.v (.bool t8.2)))], [], (.v (.bool t8.2)), none, false⟩] [[], [0], [], [2], [3], [1, 4], [5], [], [7], [6, 8], [9], [9], [10], [11]] mixed (by kernel_rfl) ?_ ?_
        · refine TxtE2.cons ⟨.same _, trivial⟩ ⟨rfl, trivial⟩ (It2.val rfl rfl (fun T hT => (VOk.g (VOk.to (VOk.fieldB rfl Try.underlying27 rfl sz25 rfl hT.1) rfl)))) ?_
          refine TxtE2.cons ⟨.same _, trivial⟩ ⟨rfl, trivial⟩ (It2.val rfl rfl (fun T hT => (VOk.g (VOk.loadB (d := (L 6 e_api_Node a0.Kids)) rfl Try.underlying25 rfl rfl hT.1 rfl)))) ?_
          refine TxtE2.cons ⟨.same _, trivial⟩ trivial (It2.val rfl rfl (fun T hT => (VOk.g (VOk.mv (d := (L 1 (eI .i64) a1)) rfl rfl)))) ?_
          refine TxtE2.cons ⟨.same _, trivial⟩ trivial (It2.val rfl rfl (fun T hT => (VOk.g (VOk.indexL (sz := 1) (e := (eI .i64)) (xs := a1) (i := 0) rfl Try.underlying39 sz3 rfl rfl c5)))) ?_
          refine TxtE2.cons ⟨.same _, trivial⟩ trivial (It2.val rfl rfl (fun T hT => (VOk.g (VOk.loadFp (d := (.v (.int .i64 (rd a1 0)))) rfl Try.underlying3 rfl rfl rfl)))) ?_
          refine TxtE2.cons ⟨.same _, .same _, trivial⟩ trivial (It2.val rfl rfl (fun T hT => (VOk.g (VOk.indexL (sz := 6) (e := e_api_Node) (xs := a0.Kids) (i := (rd a1 0)) rfl Try.underlying25 sz27 rfl rfl c6)))) ?_
          refine TxtE2.cons ⟨.same _, trivial⟩ trivial (It2.val rfl rfl (fun T hT => (VOk.g (VOk.to (d' := (.agg (e_api_Node (rd a0.Kids (rd a1 0))))) (.loadFpAgg rfl Try.underlying27 rfl sz27 rfl rfl) rfl)))) ?_
          refine TxtE2.cons ⟨.same _, trivial⟩ trivial (It2.val rfl rfl (fun T hT => (VOk.g (VOk.mv (d := (L 1 (eI .i64) a1)) rfl rfl)))) ?_
          refine TxtE2.cons ⟨.same _, trivial⟩ trivial (It2.val rfl rfl (fun T hT => (VOk.g (VOk.sliceL (e := (eI .i64)) (xs := a1) (l := 1) (h := (a1.length : Int)) rfl Try.underlying39 sz3 rfl rfl rfl c7)))) ?_
          refine TxtE2.cons ⟨.same _, .same _, trivial⟩ trivial (It2.val rfl rfl (fun T hT => (GOk.call rfl rfl cl36 rfl (@ih _ _ _ h9) rfl))) ?_
          refine TxtE2.cons ⟨.same _, trivial⟩ trivial (It2.val rfl rfl (fun T hT => (VOk.g (VOk.extract (d := (.agg (e_api_Node t8.1))) rfl rfl rfl)))) ?_
          refine TxtE2.cons ⟨.same _, trivial⟩ trivial (It2.val rfl rfl (fun T hT => (VOk.g (VOk.extract (d := (.v (.bool t8.2))) rfl rfl rfl)))) ?_
          refine TxtE2.cons ⟨.same _, DLe.of_eq (congrArg D.agg (e_api_Node_c _).symm), trivial⟩ ⟨rfl, trivial⟩ (It2.store rfl rfl sz27 rfl rfl rfl rfl rfl rfl rfl) ?_
          refine TxtE2.cons ⟨.same _, trivial⟩ trivial (It2.val rfl rfl (fun T hT => (VOk.g (VOk.asg (d := (.v (.bool t8.2))) rfl rfl)))) ?_
          exact .done (.mk ⟨.same _, .same _, trivial⟩ ⟨.same _, trivial⟩)
        refine Ok.le (σ' := ⟨[(4, (.bref 4 0)), (5, (.v (.bool t8.2)))], [(4, (.box true [(.v (.int .i64 t8.1.Kind)), (S t8.1.Name.Space), (S t8.1.Name.Local), (L 3 e_api_Attr t8.1.Attrs), (L 6 e_api_Node t8.1.Kids), (S t8.1.Text)]))]⟩) (.mk ⟨.same _, .same _, trivial⟩ ⟨.same _, trivial⟩) ?_
        refine Ok.ret ?_
        obtain rfl := Option.some.inj H
        exact ⟨.inl rfl, ⟨_, (.cons (.cell (VOk.to (d' := (.agg (e_api_Node t8.1))) (.loadBAgg rfl Try.underlying27 rfl sz27 rfl rfl rfl) (congrArg D.agg (e_api_Node_c t8.1).symm))) (.cons (.tmp rfl) .nil)), rfl⟩, trivial⟩

/-! watchbill/watchbillref12.Select: function 18 -/
def watchbillref12_Select (k : Nat) (a0 : T_api_Node) (a1 : List T_api_Step) : Option ((List Int) × Int) := ((watchbillref12_Split a1).bind fun (t1 : (List T_api_Step) × T_api_Step) => ((watchbillref12_Find k a0 t1.1).bind fun (t3 : (List (List Int))) => (if ((t3.length : Int) == 0) = true then some (([] : List Int), 5) else (if (decide ((t3.length : Int) > 1)) = true then some (([] : List Int), 35) else (if (0 : Int) ≤ 0 ∧ 0 < (t3.length : Int) then ((watchbillref06_At k a0 (rd t3 0)).bind fun (t6 : T_api_Node × Bool) => ((watchbillref04_Get k t6.1 t1.2.Name).bind fun (t8 : Str × Bool) => (if ((t1.2.Kind == 2) && (!t8.2)) = true then some (([] : List Int), 5) else (if (0 : Int) ≤ 0 ∧ 0 < (t3.length : Int) then some ((rd t3 0), 0) else none)))) else none)))))
theorem watchbillref12_Select.ok {k : Nat} {a0 : T_api_Node} {a1 : List T_api_Step} {r : (List Int) × Int} (H : watchbillref12_Select k a0 a1 = some r) : Vx.Fn Try.prog 18 [(.agg (e_api_Node a0)), (L 9 e_api_Step a1)] [] (.tup [(L 1 (eI .i64) r.1), (.v (.int .i64 r.2))]) [] := by
  unfold watchbillref12_Select at H
  refine Vx.Fn.of_okR Try.func18 rfl (Nat.le_of_ble_eq_true rfl) ?_
  refine Ok.seq ?_
  refine Ok.region (σ' := ⟨[(1, (L 9 e_api_Step a1)), (2, (.bref 2 0))], [(2, (.box true [(.v (.int .i64 a0.Kind)), (S a0.Name.Space), (S a0.Name.Local), (L 3 e_api_Attr a0.Attrs), (L 6 e_api_Node a0.Kids), (S a0.Text)]))]⟩) ?_ ?_
  · refine OpsOk.cut (σ := ⟨[(0, (.agg [(.v (.int .i64 a0.Kind)), (S a0.Name.Space), (S a0.Name.Local), (L 3 e_api_Attr a0.Attrs), (L 6 e_api_Node a0.Kids), (S a0.Text)])), (1, (L 9 e_api_Step a1))], []⟩) (.mk ⟨DLe.of_eq (congrArg D.agg (e_api_Node_c _).symm), .same _, trivial⟩ trivial) ?_
    refine OpsOk.cons rfl (OpOk.box 2 (cells := [(.v (.int .i64 a0.Kind)), (S a0.Name.Space), (S a0.Name.Local), (L 3 e_api_Attr a0.Attrs), (L 6 e_api_Node a0.Kids), (S a0.Text)]) rfl rfl rfl rfl) ?_
    refine OpsOk.cons rfl (.v (VOk.asg (d := (.v (.slice none 0 0))) rfl rfl) rfl) ?_
    refine OpsOk.cons rfl (.v (VOk.asg (d := (.v (.int .i64 0))) rfl rfl) rfl) ?_
    exact .done (.mk ⟨.same _, .same _, trivial⟩ ⟨.same _, trivial⟩)
  refine Ok.seq ?_
  obtain ⟨t1, h2, H⟩ := bindE H
  refine Ok.region (σ' := ⟨[(2, (.bref 2 0)), (6, (L 9 e_api_Step t1.1)), (7, (.bref 7 0))], [(2, (.box true [(.v (.int .i64 a0.Kind)), (S a0.Name.Space), (S a0.Name.Local), (L 3 e_api_Attr a0.Attrs), (L 6 e_api_Node a0.Kids), (S a0.Text)])), (7, (.box true [(.v (.int .i64 t1.2.Kind)), (.v (.bool t1.2.Any)), (S t1.2.Name.Space), (S t1.2.Name.Local), (.v (.int .i64 t1.2.Pos)), (.v (.bool t1.2.By)), (S t1.2.Attr.Space), (S t1.2.Attr.Local), (S t1.2.Value)]))]⟩) ?_ ?_
  · refine OpsOk.cons rfl (.v (VOk.mv (d := (L 9 e_api_Step a1)) rfl rfl) rfl) ?_
    refine OpsOk.cons rfl (.g (GOk.call rfl rfl cl16 rfl (watchbillref12_Split.ok h2) rfl) rfl) ?_
    refine OpsOk.cons rfl (.v (VOk.mv (d := (.tup [(L 9 e_api_Step t1.1), (.agg (e_api_Step t1.2))])) rfl rfl) rfl) ?_
    refine OpsOk.cons rfl (.v (VOk.extract (d := (L 9 e_api_Step t1.1)) rfl rfl rfl) rfl) ?_
    refine OpsOk.cons rfl (.v (VOk.extract (d := (.agg (e_api_Step t1.2))) rfl rfl rfl) rfl) ?_
    refine OpsOk.cons rfl (OpOk.alloc 7 [none, none, none, none, none, none, none, none, none] rfl zo30 rfl rfl) ?_
    refine OpsOk.cons rfl (.v (VOk.asg (d := (L 9 e_api_Step t1.1)) rfl rfl) rfl) ?_
    refine OpsOk.cons rfl (OpOk.to (σ2 := St.put ⟨_, (7, (.box true [(.v (.int .i64 t1.2.Kind)), (.v (.bool t1.2.Any)), (S t1.2.Name.Space), (S t1.2.Name.Local), (.v (.int .i64 t1.2.Pos)), (.v (.bool t1.2.By)), (S t1.2.Attr.Space), (S t1.2.Attr.Local), (S t1.2.Value)])) :: _⟩ _ .junk) (.storeB rfl sz30 rfl rfl rfl rfl rfl) rfl) ?_
    exact .done (.mk ⟨.same _, .same _, .same _, trivial⟩ ⟨.same _, .same _, trivial⟩)
  refine Ok.seq ?_
  obtain ⟨t3, h4, H⟩ := bindE H
  refine Ok.region (σ' := ⟨[(2, (.bref 2 0)), (7, (.bref 7 0)), (8, (L 1 (eL 1 (eI .i64)) t3))], [(2, (.box true [(.v (.int .i64 a0.Kind)), (S a0.Name.Space), (S a0.Name.Local), (L 3 e_api_Attr a0.Attrs), (L 6 e_api_Node a0.Kids), (S a0.Text)])), (7, (.box true [(.v (.int .i64 t1.2.Kind)), (.v (.bool t1.2.Any)), (S t1.2.Name.Space), (S t1.2.Name.Local), (.v (.int .i64 t1.2.Pos)), (.v (.bool t1.2.By)), (S t1.2.Attr.Space), (S t1.2.Attr.Local), (S t1.2.Value)]))]⟩) ?_ ?_
  · refine OpsOk.cons rfl (.v (VOk.to (d' := (.agg (e_api_Node a0))) (.loadBAgg rfl Try.underlying27 rfl sz27 rfl rfl rfl) (congrArg D.agg (e_api_Node_c a0).symm)) rfl) ?_
    refine OpsOk.cons rfl (.v (VOk.mv (d := (L 9 e_api_Step t1.1)) rfl rfl) rfl) ?_
    refine OpsOk.cons rfl (.g (GOk.call rfl rfl cl11 rfl (watchbillref12_Find.ok h4) rfl) rfl) ?_
    refine OpsOk.cons rfl (.v (VOk.asg (d := (L 1 (eL 1 (eI .i64)) t3)) rfl rfl) rfl) ?_
    exact .done (.mk ⟨.same _, .same _, .same _, trivial⟩ ⟨.same _, .same _, trivial⟩)
  refine Ok.seq ?_
  refine Ok.seq ?_
  refine Ok.region (σ' := ⟨[(2, (.bref 2 0)), (7, (.bref 7 0)), (8, (L 1 (eL 1 (eI .i64)) t3)), (23, (.v (.bool ((t3.length : Int) == 0))))], [(2, (.box true [(.v (.int .i64 a0.Kind)), (S a0.Name.Space), (S a0.Name.Local), (L 3 e_api_Attr a0.Attrs), (L 6 e_api_Node a0.Kids), (S a0.Text)])), (7, (.box true [(.v (.int .i64 t1.2.Kind)), (.v (.bool t1.2.Any)), (S t1.2.Name.Space), (S t1.2.Name.Local), (.v (.int .i64 t1.2.Pos)), (.v (.bool t1.2.By)), (S t1.2.Attr.Space), (S t1.2.Attr.Local), (S t1.2.Value)]))]⟩) ?_ ?_
  · refine OpsOk.cons rfl (.v (VOk.mv (d := (L 1 (eL 1 (eI .i64)) t3)) rfl rfl) rfl) ?_
    refine OpsOk.cons rfl (.v (VOk.lenL (e := (eL 1 (eI .i64))) (xs := t3) rfl Try.underlying34 rfl) rfl) ?_
    refine OpsOk.cons rfl (.v (VOk.arith (op := .eql) (k := .i64) (a := (t3.length : Int)) (b := 0) rfl rfl rfl rfl) rfl) ?_
    exact .done (.mk ⟨.same _, .same _, .same _, .same _, trivial⟩ ⟨.same _, .same _, trivial⟩)
  refine Ok.test (b := ((t3.length : Int) == 0)) rfl (fun hb15 => ?_) (fun hb15 => ?_)
  · replace H := ifT H hb15
    refine Ok.seq ?_
    refine Ok.region (σ' := ⟨[(4, (.v (.slice none 0 0))), (5, (.v (.int .i64 5)))], []⟩) ?_ ?_
    · refine OpsOk.cons rfl (.v (VOk.asg (d := (.v (.slice none 0 0))) rfl rfl) rfl) ?_
      refine OpsOk.cons rfl (.v (VOk.asg (d := (.v (.int .i64 5))) rfl rfl) rfl) ?_
      exact .done (.mk ⟨.same _, .same _, trivial⟩ trivial)
    refine Ok.le (σ' := ⟨[(4, (L 1 (eI .i64) ([] : List Int))), (5, (.v (.int .i64 5)))], []⟩) (.mk ⟨.nil _, .same _, trivial⟩ trivial) ?_
    refine Ok.ret ?_
    obtain rfl := Option.some.inj H
    exact ⟨.inl rfl, ⟨_, (.cons (.tmp rfl) (.cons (.tmp rfl) .nil)), rfl⟩, trivial⟩
  · replace H := ifF H hb15
    refine Ok.le (σ' := ⟨[(2, (.bref 2 0)), (7, (.bref 7 0)), (8, (L 1 (eL 1 (eI .i64)) t3))], [(2, (.box true [(.v (.int .i64 a0.Kind)), (S a0.Name.Space), (S a0.Name.Local), (L 3 e_api_Attr a0.Attrs), (L 6 e_api_Node a0.Kids), (S a0.Text)])), (7, (.box true [(.v (.int .i64 t1.2.Kind)), (.v (.bool t1.2.Any)), (S t1.2.Name.Space), (S t1.2.Name.Local), (.v (.int .i64 t1.2.Pos)), (.v (.bool t1.2.By)), (S t1.2.Attr.Space), (S t1.2.Attr.Local), (S t1.2.Value)]))]⟩) (.mk ⟨.same _, .same _, .same _, trivial⟩ ⟨.same _, .same _, trivial⟩) ?_
    refine Ok.skip ?_
    refine Ok.seq ?_
    refine Ok.seq ?_
    refine Ok.region (σ' := ⟨[(2, (.bref 2 0)), (7, (.bref 7 0)), (8, (L 1 (eL 1 (eI .i64)) t3)), (26, (.v (.bool (decide ((t3.length : Int) > 1)))))], [(2, (.box true [(.v (.int .i64 a0.Kind)), (S a0.Name.Space), (S a0.Name.Local), (L 3 e_api_Attr a0.Attrs), (L 6 e_api_Node a0.Kids), (S a0.Text)])), (7, (.box true [(.v (.int .i64 t1.2.Kind)), (.v (.bool t1.2.Any)), (S t1.2.Name.Space), (S t1.2.Name.Local), (.v (.int .i64 t1.2.Pos)), (.v (.bool t1.2.By)), (S t1.2.Attr.Space), (S t1.2.Attr.Local), (S t1.2.Value)]))]⟩) ?_ ?_
    · refine OpsOk.cons rfl (.v (VOk.mv (d := (L 1 (eL 1 (eI .i64)) t3)) rfl rfl) rfl) ?_
      refine OpsOk.cons rfl (.v (VOk.lenL (e := (eL 1 (eI .i64))) (xs := t3) rfl Try.underlying34 rfl) rfl) ?_
      refine OpsOk.cons rfl (.v (VOk.arith (op := .gtr) (k := .i64) (a := (t3.length : Int)) (b := 1) rfl rfl rfl rfl) rfl) ?_
      exact .done (.mk ⟨.same _, .same _, .same _, .same _, trivial⟩ ⟨.same _, .same _, trivial⟩)
    refine Ok.test (b := (decide ((t3.length : Int) > 1))) rfl (fun hb14 => ?_) (fun hb14 => ?_)
    · replace H := ifT H hb14
      refine Ok.seq ?_
      refine Ok.region (σ' := ⟨[(4, (.v (.slice none 0 0))), (5, (.v (.int .i64 35)))], []⟩) ?_ ?_
      · refine OpsOk.cons rfl (.v (VOk.asg (d := (.v (.slice none 0 0))) rfl rfl) rfl) ?_
        refine OpsOk.cons rfl (.v (VOk.asg (d := (.v (.int .i64 35))) rfl rfl) rfl) ?_
        exact .done (.mk ⟨.same _, .same _, trivial⟩ trivial)
      refine Ok.le (σ' := ⟨[(4, (L 1 (eI .i64) ([] : List Int))), (5, (.v (.int .i64 35)))], []⟩) (.mk ⟨.nil _, .same _, trivial⟩ trivial) ?_
      refine Ok.ret ?_
      obtain rfl := Option.some.inj H
      exact ⟨.inl rfl, ⟨_, (.cons (.tmp rfl) (.cons (.tmp rfl) .nil)), rfl⟩, trivial⟩
    · replace H := ifF H hb14
      refine Ok.le (σ' := ⟨[(2, (.bref 2 0)), (7, (.bref 7 0)), (8, (L 1 (eL 1 (eI .i64)) t3))], [(2, (.box true [(.v (.int .i64 a0.Kind)), (S a0.Name.Space), (S a0.Name.Local), (L 3 e_api_Attr a0.Attrs), (L 6 e_api_Node a0.Kids), (S a0.Text)])), (7, (.box true [(.v (.int .i64 t1.2.Kind)), (.v (.bool t1.2.Any)), (S t1.2.Name.Space), (S t1.2.Name.Local), (.v (.int .i64 t1.2.Pos)), (.v (.bool t1.2.By)), (S t1.2.Attr.Space), (S t1.2.Attr.Local), (S t1.2.Value)]))]⟩) (.mk ⟨.same _, .same _, .same _, trivial⟩ ⟨.same _, .same _, trivial⟩) ?_
      refine Ok.skip ?_
      refine Ok.seq ?_
      obtain ⟨c5, H⟩ := assertE H
      obtain ⟨t6, h7, H⟩ := bindE H
      refine Ok.le (σ' := ⟨[(2, (.bref 2 0)), (7, (.bref 7 0)), (8, (L 1 (eL 1 (eI .i64)) t3))], [(2, (.box true [(.v (.int .i64 a0.Kind)), (S a0.Name.Space), (S a0.Name.Local), (L 3 e_api_Attr a0.Attrs), (L 6 e_api_Node a0.Kids), (S a0.Text)])), (7, (.box true [(.v (.int .i64 t1.2.Kind)), (.v (.bool t1.2.Any)), (S t1.2.Name.Space), (S t1.2.Name.Local), (.v (.int .i64 t1.2.Pos)), (.v (.bool t1.2.By)), (S t1.2.Attr.Space), (S t1.2.Attr.Local), (S t1.2.Value)]))]⟩) (.mk ⟨.same _, .same _, .same _, trivial⟩ ⟨.same _, .same _, trivial⟩) ?_
      refine Ok.drawE2 (σ' := ⟨[(7, (.bref 7 0)), (8, (L 1 (eL 1 (eI .i64)) t3)), (9, (.bref 9 0))], [(7, (.box true [(.v (.int .i64 t1.2.Kind)), (.v (.bool t1.2.Any)), (S t1.2.Name.Space), (S t1.2.Name.Local), (.v (.int .i64 t1.2.Pos)), (.v (.bool t1.2.By)), (S t1.2.Attr.Space), (S t1.2.Attr.Local), (S t1.2.Value)])), (9, (.box true [(.v (.int .i64 t6.1.Kind)), (S t6.1.Name.Space), (S t6.1.Name.Local), (L 3 e_api_Attr t6.1.Attrs), (L 6 e_api_Node t6.1.Kids), (S t6.1.Text)]))]⟩) [⟨true, [(2, (.bref 2 0))], [(2, (.box true [(.v (.int .i64 a0.Kind)), (S a0.Name.Space), (S a0.Name.Local), (L 3 e_api_Attr a0.Attrs), (L 6 e_api_Node a0.Kids), (S a0.Text)]))], (.agg (e_api_Node a0)), none, false⟩, ⟨true, [(8, (L 1 (eL 1 (eI .i64)) t3))], [], (L 1 (eL 1 (eI .i64)) t3), none, false⟩, ⟨true, [(29, (L 1 (eL 1 (eI .i64)) t3))], [], (.fp ((eL 1 (eI .i64)) (rd t3 0)) 0), none, false⟩, ⟨true, [(30, (.fp ((eL 1 (eI .i64)) (rd t3 0)) 0))], [], (L 1 (eI .i64) (rd t3 0)), none, false⟩, ⟨true, [(28, (.agg (e_api_Node a0))), (31, (L 1 (eI .i64) (rd t3 0)))], [], (.tup [(.agg (e_api_Node t6.1)), (.v (.bool t6.2))]), none, false⟩, ⟨true, [(32, (.tup [(.agg (e_api_Node t6.1)), (.v (.bool t6.2))]))], [], (.tup [(.agg (e_api_Node t6.1)), (.v (.bool t6.2))]), none, false⟩, ⟨true, [(27, (.tup [(.agg (e_api_Node t6.1)), (.v (.bool t6.2))]))], [], (.agg (e_api_Node t6.1)), none, false⟩, ⟨true, [(27, (.tup [(.agg (e_api_Node t6.1)), (.v (.bool t6.2))]))], [], (.v (.bool t6.2)), none, false⟩, ⟨true, [], [], (.bref 9 0), (some (9, (.box true [(.v (.int .i64 0)), (S ([] : Str)), (S ([] : Str)), (L 3 e_api_Attr ([] : List T_api_Attr)), (L 6 e_api_Node ([] : List T_api_Node)), (S ([] : Str))]))), true⟩, ⟨true, [(9, (.bref 9 0)), (33, (.agg [(.v (.int .i64 t6.1.Kind)), (S t6.1.Name.Space), (S t6.1.Name.Local), (L 3 e_api_Attr t6.1.Attrs), (L 6 e_api_Node t6.1.Kids), (S t6.1.Text)]))], [(9, (.box true [(.v (.int .i64 0)), (S ([] : Str)), (S ([] : Str)), (L 3 e_api_Attr ([] : List T_api_Attr)), (L 6 e_api_Node ([] : List T_api_Node)), (S ([] : Str))]))], .junk, (some (9, (.box true [(.v (.int .i64 t6.1.Kind)), (S t6.1.Name.Space), (S t6.1.Name.Local), (L 3 e_api_Attr t6.1.Attrs), (L 6 e_api_Node t6.1.Kids), (S t6.1.Text)]))), false⟩, ⟨true, [(34, (.v (.bool t6.2)))], [], (.v (.bool t6.2)), none, false⟩] [[], [], [1], [2], [0, 3], [4], [5], [5], [], [6, 8], [7]] mixed (by kernel_rfl) ?_ ?_
      · refine TxtE2.cons ⟨.same _, trivial⟩ ⟨rfl, trivial⟩ (It2.val rfl rfl (fun T hT => (VOk.g (VOk.to (d' := (.agg (e_api_Node a0))) (.loadBAgg rfl Try.underlying27 rfl sz27 rfl hT.1 rfl) (congrArg D.agg (e_api_Node_c a0).symm))))) ?_
        refine TxtE2.cons ⟨.same _, trivial⟩ trivial (It2.val rfl rfl (fun T hT => (VOk.g (VOk.mv (d := (L 1 (eL 1 (eI .i64)) t3)) rfl rfl)))) ?_
        refine TxtE2.cons ⟨.same _, trivial⟩ trivial (It2.val rfl rfl (fun T hT => (VOk.g (VOk.indexL (sz := 1) (e := (eL 1 (eI .i64))) (xs := t3) (i := 0) rfl Try.underlying34 sz39 rfl rfl c5)))) ?_
        refine TxtE2.cons ⟨.same _, trivial⟩ trivial (It2.val rfl rfl (fun T hT => (VOk.g (VOk.loadFp (d := (L 1 (eI .i64) (rd t3 0))) rfl Try.underlying39 rfl rfl rfl)))) ?_
        refine TxtE2.cons ⟨.same _, .same _, trivial⟩ trivial (It2.val rfl rfl (fun T hT => (GOk.call rfl rfl cl36 rfl (watchbillref06_At.ok h7) rfl))) ?_
        refine TxtE2.cons ⟨.same _, trivial⟩ trivial (It2.val rfl rfl (fun T hT => (VOk.g (VOk.mv (d := (.tup [(.agg (e_api_Node t6.1)), (.v (.bool t6.2))])) rfl rfl)))) ?_
        refine TxtE2.cons ⟨.same _, trivial⟩ trivial (It2.val rfl rfl (fun T hT => (VOk.g (VOk.extract (d := (.agg (e_api_Node t6.1))) rfl rfl rfl)))) ?_
        refine TxtE2.cons ⟨.same _, trivial⟩ trivial (It2.val rfl rfl (fun T hT => (VOk.g (VOk.extract (d := (.v (.bool t6.2))) rfl rfl rfl)))) ?_
        refine TxtE2.cons trivial trivial (It2.alloc 9 [none, none, none, some 3, some 6, none] rfl rfl zo27 rfl rfl) ?_
        refine TxtE2.cons ⟨.same _, DLe.of_eq (congrArg D.agg (e_api_Node_c _).symm), trivial⟩ ⟨rfl, trivial⟩ (It2.store rfl rfl sz27 rfl rfl rfl rfl rfl rfl rfl) ?_
        refine TxtE2.cons ⟨.same _, trivial⟩ trivial (It2.val rfl rfl (fun T hT => (VOk.g (VOk.asg (d := (.v (.bool t6.2))) rfl rfl)))) ?_
        exact .done (.mk ⟨.same _, .same _, .same _, trivial⟩ ⟨.same _, .same _, trivial⟩)
      refine Ok.seq ?_
      refine Ok.seq ?_
      obtain ⟨t8, h9, H⟩ := bindE H
      refine Ok.region (σ' := ⟨[(7, (.bref 7 0)), (8, (L 1 (eL 1 (eI .i64)) t3)), (12, (.v (.bool t8.2)))], [(7, (.box true [(.v (.int .i64 t1.2.Kind)), (.v (.bool t1.2.Any)), (S t1.2.Name.Space), (S t1.2.Name.Local), (.v (.int .i64 t1.2.Pos)), (.v (.bool t1.2.By)), (S t1.2.Attr.Space), (S t1.2.Attr.Local), (S t1.2.Value)]))]⟩) ?_ ?_
      · refine OpsOk.cons rfl (.v (VOk.to (d' := (.agg (e_api_Node t6.1))) (.loadBAgg rfl Try.underlying27 rfl sz27 rfl rfl rfl) (congrArg D.agg (e_api_Node_c t6.1).symm)) rfl) ?_
        refine OpsOk.cons rfl (.v (VOk.to (VOk.fieldB rfl Try.underlying30 rfl sz23 rfl rfl) rfl) rfl) ?_
        refine OpsOk.cons rfl (.v (VOk.to (d' := (.agg (e_api_Name t1.2.Name))) (.loadBAgg rfl Try.underlying23 rfl sz23 rfl rfl rfl) rfl) rfl) ?_
        refine OpsOk.cons rfl (.g (GOk.call rfl rfl cl32 rfl (watchbillref04_Get.ok h9) rfl) rfl) ?_
        refine OpsOk.cons rfl (.v (VOk.mv (d := (.tup [(S t8.1), (.v (.bool t8.2))])) rfl rfl) rfl) ?_
        refine OpsOk.cons rfl (.v (VOk.extract (d := (S t8.1)) rfl rfl rfl) rfl) ?_
        refine OpsOk.cons rfl (.v (VOk.extract (d := (.v (.bool t8.2))) rfl rfl rfl) rfl) ?_
        refine OpsOk.cons rfl (.v (VOk.asg (d := (S t8.1)) rfl rfl) rfl) ?_
        refine OpsOk.cons rfl (.v (VOk.asg (d := (.v (.bool t8.2))) rfl rfl) rfl) ?_
        exact .done (.mk ⟨.same _, .same _, .same _, trivial⟩ ⟨.same _, trivial⟩)
      refine Ok.seq ?_
      refine Ok.region (σ' := ⟨[(8, (L 1 (eL 1 (eI .i64)) t3)), (48, (.v (.bool ((t1.2.Kind == 2) && (!t8.2)))))], []⟩) ?_ ?_
      · refine OpsOk.cons rfl (.v (VOk.to (VOk.fieldB rfl Try.underlying30 rfl sz3 rfl rfl) rfl) rfl) ?_
        refine OpsOk.cons rfl (.v (VOk.loadB (d := (.v (.int .i64 t1.2.Kind))) rfl Try.underlying3 rfl rfl rfl rfl) rfl) ?_
        refine OpsOk.cons rfl (.v (VOk.arith (op := .eql) (k := .i64) (a := t1.2.Kind) (b := 2) rfl rfl rfl rfl) rfl) ?_
        refine OpsOk.cons rfl (.v (VOk.mv (d := (.v (.bool (t1.2.Kind == 2)))) rfl rfl) rfl) ?_
        refine OpsOk.consI rfl rfl rfl (.one rfl) rfl (fun hw10 => (VOk.g (VOk.mv (d := (.v (.bool t8.2))) rfl rfl))) ?_
        refine OpsOk.consI rfl rfl rfl (.one rfl) rfl (fun hw10 => (GOk.fr (fr' := [(46, (.v (.bool t8.2)))]) ⟨DLe.of_eq (cT hw10).symm, trivial⟩ (VOk.g (VOk.not (b := t8.2) rfl rfl)))) ?_
        refine OpsOk.cons rfl (.v (VOk.to (VOk.pickI (b := (t1.2.Kind == 2)) (p := (!t8.2)) (q := false) rfl rfl (fun hp11 => (cT (t_beq hp11))) (fun hp11 => rfl)) (pickAnd (t1.2.Kind == 2) (!t8.2))) rfl) ?_
        exact .done (.mk ⟨.same _, .same _, trivial⟩ trivial)
      refine Ok.test (b := ((t1.2.Kind == 2) && (!t8.2))) rfl (fun hb13 => ?_) (fun hb13 => ?_)
      · replace H := ifT H hb13
        refine Ok.seq ?_
        refine Ok.region (σ' := ⟨[(4, (.v (.slice none 0 0))), (5, (.v (.int .i64 5)))], []⟩) ?_ ?_
        · refine OpsOk.cons rfl (.v (VOk.asg (d := (.v (.slice none 0 0))) rfl rfl) rfl) ?_
          refine OpsOk.cons rfl (.v (VOk.asg (d := (.v (.int .i64 5))) rfl rfl) rfl) ?_
          exact .done (.mk ⟨.same _, .same _, trivial⟩ trivial)
        refine Ok.le (σ' := ⟨[(4, (L 1 (eI .i64) ([] : List Int))), (5, (.v (.int .i64 5)))], []⟩) (.mk ⟨.nil _, .same _, trivial⟩ trivial) ?_
        refine Ok.ret ?_
        obtain rfl := Option.some.inj H
        exact ⟨.inl rfl, ⟨_, (.cons (.tmp rfl) (.cons (.tmp rfl) .nil)), rfl⟩, trivial⟩
      · replace H := ifF H hb13
        refine Ok.le (σ' := ⟨[(8, (L 1 (eL 1 (eI .i64)) t3))], []⟩) (.mk ⟨.same _, trivial⟩ trivial) ?_
        refine Ok.skip ?_
        refine Ok.seq ?_
        obtain ⟨c12, H⟩ := assertE H
        refine Ok.region (σ' := ⟨[(4, (L 1 (eI .i64) (rd t3 0))), (5, (.v (.int .i64 0)))], []⟩) ?_ ?_
        · refine OpsOk.cons rfl (.v (VOk.mv (d := (L 1 (eL 1 (eI .i64)) t3)) rfl rfl) rfl) ?_
          refine OpsOk.cons rfl (.v (VOk.indexL (sz := 1) (e := (eL 1 (eI .i64))) (xs := t3) (i := 0) rfl Try.underlying34 sz39 rfl rfl c12) rfl) ?_
          refine OpsOk.cons rfl (.v (VOk.loadFp (d := (L 1 (eI .i64) (rd t3 0))) rfl Try.underlying39 rfl rfl rfl) rfl) ?_
          refine OpsOk.cons rfl (.v (VOk.asg (d := (L 1 (eI .i64) (rd t3 0))) rfl rfl) rfl) ?_
          refine OpsOk.cons rfl (.v (VOk.asg (d := (.v (.int .i64 0))) rfl rfl) rfl) ?_
          exact .done (.mk ⟨.same _, .same _, trivial⟩ trivial)
        refine Ok.le (σ' := ⟨[(4, (L 1 (eI .i64) (rd t3 0))), (5, (.v (.int .i64 0)))], []⟩) (.mk ⟨.same _, .same _, trivial⟩ trivial) ?_
        refine Ok.ret ?_
        obtain rfl := Option.some.inj H
        exact ⟨.inl rfl, ⟨_, (.cons (.tmp rfl) (.cons (.tmp rfl) .nil)), rfl⟩, trivial⟩

/-! watchbill/watchbillref10.Same: function 19 -/
def watchbillref10_Same.l0 (k : Nat) (a0 : List T_api_Step) (a1 : List T_api_Step) : Nat → Int → Option Bool
  | 0, _ => none
  | m3 + 1, x5_1 => (if (decide (x5_1 < (a0.length : Int))) = true then (if (0 : Int) ≤ x5_1 ∧ x5_1 < (a0.length : Int) then (if (0 : Int) ≤ x5_1 ∧ x5_1 < (a1.length : Int) then (if (!((rd a0 x5_1).Kind == (rd a1 x5_1).Kind && ((rd a0 x5_1).Any == (rd a1 x5_1).Any && ((rd a0 x5_1).Name.Space == (rd a1 x5_1).Name.Space && ((rd a0 x5_1).Name.Local == (rd a1 x5_1).Name.Local && ((rd a0 x5_1).Pos == (rd a1 x5_1).Pos && ((rd a0 x5_1).By == (rd a1 x5_1).By && ((rd a0 x5_1).Attr.Space == (rd a1 x5_1).Attr.Space && ((rd a0 x5_1).Attr.Local == (rd a1 x5_1).Attr.Local && ((rd a0 x5_1).Value == (rd a1 x5_1).Value && true)))))))))) = true then some false else watchbillref10_Same.l0 k a0 a1 m3 (IntKind.i64.wrap (x5_1 + 1))) else none) else none) else some true)
def watchbillref10_Same (k : Nat) (a0 : List T_api_Step) (a1 : List T_api_Step) : Option Bool := (if ((a0.length : Int) != (a1.length : Int)) = true then some false else watchbillref10_Same.l0 k a0 a1 k 0)
theorem watchbillref10_Same.ok {k : Nat} {a0 : List T_api_Step} {a1 : List T_api_Step} {r : Bool} (H : watchbillref10_Same k a0 a1 = some r) : Vx.Fn Try.prog 19 [(L 9 e_api_Step a0), (L 9 e_api_Step a1)] [] (.v (.bool r)) [] := by
  unfold watchbillref10_Same at H
  refine Vx.Fn.of_okR Try.func19 rfl (Nat.le_of_ble_eq_true rfl) ?_
  refine Ok.seq ?_
  refine Ok.region (σ' := ⟨[(0, (L 9 e_api_Step a0)), (1, (L 9 e_api_Step a1))], []⟩) ?_ ?_
  · refine OpsOk.cons rfl (.v (VOk.asg (d := (.v (.bool false))) rfl rfl) rfl) ?_
    exact .done (.mk ⟨.same _, .same _, trivial⟩ trivial)
  refine Ok.seq ?_
  refine Ok.seq ?_
  refine Ok.region (σ' := ⟨[(0, (L 9 e_api_Step a0)), (1, (L 9 e_api_Step a1)), (10, (.v (.bool ((a0.length : Int) != (a1.length : Int)))))], []⟩) ?_ ?_
  · refine OpsOk.cons rfl (.v (VOk.mv (d := (L 9 e_api_Step a0)) rfl rfl) rfl) ?_
    refine OpsOk.cons rfl (.v (VOk.lenL (e := e_api_Step) (xs := a0) rfl Try.underlying28 rfl) rfl) ?_
    refine OpsOk.cons rfl (.v (VOk.mv (d := (L 9 e_api_Step a1)) rfl rfl) rfl) ?_
    refine OpsOk.cons rfl (.v (VOk.lenL (e := e_api_Step) (xs := a1) rfl Try.underlying28 rfl) rfl) ?_
    refine OpsOk.cons rfl (.v (VOk.arith (op := .neq) (k := .i64) (a := (a0.length : Int)) (b := (a1.length : Int)) rfl rfl rfl rfl) rfl) ?_
    exact .done (.mk ⟨.same _, .same _, .same _, trivial⟩ trivial)
  refine Ok.test (b := ((a0.length : Int) != (a1.length : Int))) rfl (fun hb8 => ?_) (fun hb8 => ?_)
  · replace H := ifT H hb8
    refine Ok.seq ?_
    refine Ok.region (σ' := ⟨[(4, (.v (.bool false)))], []⟩) ?_ ?_
    · refine OpsOk.cons rfl (.v (VOk.asg (d := (.v (.bool false))) rfl rfl) rfl) ?_
      exact .done (.mk ⟨.same _, trivial⟩ trivial)
    refine Ok.le (σ' := ⟨[(4, (.v (.bool false)))], []⟩) (.mk ⟨.same _, trivial⟩ trivial) ?_
    refine Ok.ret ?_
    obtain rfl := Option.some.inj H
    exact ⟨.inl rfl, ⟨_, (.cons (.tmp rfl) .nil), rfl⟩, trivial⟩
  · replace H := ifF H hb8
    refine Ok.le (σ' := ⟨[(0, (L 9 e_api_Step a0)), (1, (L 9 e_api_Step a1))], []⟩) (.mk ⟨.same _, .same _, trivial⟩ trivial) ?_
    refine Ok.skip ?_
    refine Ok.seq ?_
    refine Ok.seq ?_
    refine Ok.region (σ' := ⟨[(0, (L 9 e_api_Step a0)), (1, (L 9 e_api_Step a1)), (5, (.v (.int .i64 0)))], []⟩) ?_ ?_
    · refine OpsOk.cons rfl (.v (VOk.asg (d := (.v (.int .i64 0))) rfl rfl) rfl) ?_
      exact .done (.mk ⟨.same _, .same _, .same _, trivial⟩ trivial)
    refine Ok.block ?_
    refine Ok.le (σ' := ⟨[(0, (L 9 e_api_Step a0)), (1, (L 9 e_api_Step a1)), (5, (.v (.int .i64 0)))], []⟩) (.mk ⟨.same _, .same _, .same _, trivial⟩ trivial) ?_
    refine Ok.loop (fun m3 σ => ∃ (x5_1 : Int), σ = ⟨[(0, (L 9 e_api_Step a0)), (1, (L 9 e_api_Step a1)), (5, (.v (.int .i64 x5_1)))], []⟩ ∧ watchbillref10_Same.l0 k a0 a1 m3 x5_1 = some r) k ⟨0, rfl, H⟩ ?_
    rintro m3 σ ⟨x5_1, rfl, H⟩
    cases m3 with
    | zero => exact absurd H (by simp [watchbillref10_Same.l0])
    | succ m3 =>
      unfold watchbillref10_Same.l0 at H
      refine Ok.seq ?_
      refine Ok.seq ?_
      refine Ok.region (σ' := ⟨[(0, (L 9 e_api_Step a0)), (1, (L 9 e_api_Step a1)), (5, (.v (.int .i64 x5_1))), (14, (.v (.bool (decide (x5_1 < (a0.length : Int))))))], []⟩) ?_ ?_
      · refine OpsOk.cons rfl (.v (VOk.mv (d := (.v (.int .i64 x5_1))) rfl rfl) rfl) ?_
        refine OpsOk.cons rfl (.v (VOk.mv (d := (L 9 e_api_Step a0)) rfl rfl) rfl) ?_
        refine OpsOk.cons rfl (.v (VOk.lenL (e := e_api_Step) (xs := a0) rfl Try.underlying28 rfl) rfl) ?_
        refine OpsOk.cons rfl (.v (VOk.arith (op := .lss) (k := .i64) (a := x5_1) (b := (a0.length : Int)) rfl rfl rfl rfl) rfl) ?_
        exact .done (.mk ⟨.same _, .same _, .same _, .same _, trivial⟩ trivial)
      refine Ok.test (b := (decide (x5_1 < (a0.length : Int)))) rfl (fun hb7 => ?_) (fun hb7 => ?_)
      · replace H := ifT H hb7
        refine Ok.le (σ' := ⟨[(0, (L 9 e_api_Step a0)), (1, (L 9 e_api_Step a1)), (5, (.v (.int .i64 x5_1)))], []⟩) (.mk ⟨.same _, .same _, .same _, trivial⟩ trivial) ?_
        refine Ok.skip ?_
        refine Ok.seq ?_
        refine Ok.block ?_
        refine Ok.seq ?_
        obtain ⟨c4, H⟩ := assertE H
        obtain ⟨c5, H⟩ := assertE H
        refine Ok.drawE (σ' := ⟨[(0, (L 9 e_api_Step a0)), (1, (L 9 e_api_Step a1)), (5, (.v (.int .i64 x5_1))), (25, (.v (.bool (!((rd a0 x5_1).Kind == (rd a1 x5_1).Kind && ((rd a0 x5_1).Any == (rd a1 x5_1).Any && ((rd a0 x5_1).Name.Space == (rd a1 x5_1).Name.Space && ((rd a0 x5_1).Name.Local == (rd a1 x5_1).Name.Local && ((rd a0 x5_1).Pos == (rd a1 x5_1).Pos && ((rd a0 x5_1).By == (rd a1 x5_1).By && ((rd a0 x5_1).Attr.Space == (rd a1 x5_1).Attr.Space && ((rd a0 x5_1).Attr.Local == (rd a1 x5_1).Attr.Local && ((rd a0 x5_1).Value == (rd a1 x5_1).Value && true)))))))))))))], []⟩) [⟨true, [(0, (L 9 e_api_Step a0))], (L 9 e_api_Step a0)⟩, ⟨true, [(5, (.v (.int .i64 x5_1)))], (.v (.int .i64 x5_1))⟩, ⟨true, [(17, (L 9 e_api_Step a0)), (18, (.v (.int .i64 x5_1)))], (.fp (e_api_Step (rd a0 x5_1)) 0)⟩, ⟨true, [(19, (.fp (e_api_Step (rd a0 x5_1)) 0))], (.agg (e_api_Step (rd a0 x5_1)))⟩, ⟨true, [(1, (L 9 e_api_Step a1))], (L 9 e_api_Step a1)⟩, ⟨true, [(5, (.v (.int .i64 x5_1)))], (.v (.int .i64 x5_1))⟩, ⟨true, [(21, (L 9 e_api_Step a1)), (22, (.v (.int .i64 x5_1)))], (.fp (e_api_Step (rd a1 x5_1)) 0)⟩, ⟨true, [(23, (.fp (e_api_Step (rd a1 x5_1)) 0))], (.agg (e_api_Step (rd a1 x5_1)))⟩, ⟨true, [(20, (.agg (e_api_Step (rd a0 x5_1)))), (24, (.agg (e_api_Step (rd a1 x5_1))))], (.v (.bool (!((rd a0 x5_1).Kind == (rd a1 x5_1).Kind && ((rd a0 x5_1).Any == (rd a1 x5_1).Any && ((rd a0 x5_1).Name.Space == (rd a1 x5_1).Name.Space && ((rd a0 x5_1).Name.Local == (rd a1 x5_1).Name.Local && ((rd a0 x5_1).Pos == (rd a1 x5_1).Pos && ((rd a0 x5_1).By == (rd a1 x5_1).By && ((rd a0 x5_1).Attr.Space == (rd a1 x5_1).Attr.Space && ((rd a0 x5_1).Attr.Local == (rd a1 x5_1).Attr.Local && ((rd a0 x5_1).Value == (rd a1 x5_1).Value && true))))))))))))⟩] [[], [], [0, 1], [2], [], [], [4, 5], [6], [3, 7]] mixed (by kernel_rfl) ?_ ?_
        · refine TxtE.cons rfl ⟨.same _, trivial⟩ rfl (VOk.g (VOk.mv (d := (L 9 e_api_Step a0)) rfl rfl)) ?_
          refine TxtE.cons rfl ⟨.same _, trivial⟩ rfl (VOk.g (VOk.mv (d := (.v (.int .i64 x5_1))) rfl rfl)) ?_
          refine TxtE.cons rfl ⟨.same _, .same _, trivial⟩ rfl (VOk.g (VOk.indexL (sz := 9) (e := e_api_Step) (xs := a0) (i := x5_1) rfl Try.underlying28 sz30 rfl rfl c4)) ?_
          refine TxtE.cons rfl ⟨.same _, trivial⟩ rfl (VOk.g (VOk.to (d' := (.agg (e_api_Step (rd a0 x5_1)))) (.loadFpAgg rfl Try.underlying30 rfl sz30 rfl rfl) rfl)) ?_
          refine TxtE.cons rfl ⟨.same _, trivial⟩ rfl (VOk.g (VOk.mv (d := (L 9 e_api_Step a1)) rfl rfl)) ?_
          refine TxtE.cons rfl ⟨.same _, trivial⟩ rfl (VOk.g (VOk.mv (d := (.v (.int .i64 x5_1))) rfl rfl)) ?_
          refine TxtE.cons rfl ⟨.same _, .same _, trivial⟩ rfl (VOk.g (VOk.indexL (sz := 9) (e := e_api_Step) (xs := a1) (i := x5_1) rfl Try.underlying28 sz30 rfl rfl c5)) ?_
          refine TxtE.cons rfl ⟨.same _, trivial⟩ rfl (VOk.g (VOk.to (d' := (.agg (e_api_Step (rd a1 x5_1)))) (.loadFpAgg rfl Try.underlying30 rfl sz30 rfl rfl) rfl)) ?_
          refine TxtE.cons rfl ⟨.same _, .same _, trivial⟩ rfl (VOk.g (VOk.eqS' (op := .neq) (d := (.v (.bool (!((rd a0 x5_1).Kind == (rd a1 x5_1).Kind && ((rd a0 x5_1).Any == (rd a1 x5_1).Any && ((rd a0 x5_1).Name.Space == (rd a1 x5_1).Name.Space && ((rd a0 x5_1).Name.Local == (rd a1 x5_1).Name.Local && ((rd a0 x5_1).Pos == (rd a1 x5_1).Pos && ((rd a0 x5_1).By == (rd a1 x5_1).By && ((rd a0 x5_1).Attr.Space == (rd a1 x5_1).Attr.Space && ((rd a0 x5_1).Attr.Local == (rd a1 x5_1).Attr.Local && ((rd a0 x5_1).Value == (rd a1 x5_1).Value && true))))))))))))) rfl (.inr rfl) (eqt30 9997) ag30 eg30 rfl rfl rfl rfl)) ?_
          exact .done (.mk ⟨.same _, .same _, .same _, .same _, trivial⟩ trivial)
        refine Ok.test (b := (!((rd a0 x5_1).Kind == (rd a1 x5_1).Kind && ((rd a0 x5_1).Any == (rd a1 x5_1).Any && ((rd a0 x5_1).Name.Space == (rd a1 x5_1).Name.Space && ((rd a0 x5_1).Name.Local == (rd a1 x5_1).Name.Local && ((rd a0 x5_1).Pos == (rd a1 x5_1).Pos && ((rd a0 x5_1).By == (rd a1 x5_1).By && ((rd a0 x5_1).Attr.Space == (rd a1 x5_1).Attr.Space && ((rd a0 x5_1).Attr.Local == (rd a1 x5_1).Attr.Local && ((rd a0 x5_1).Value == (rd a1 x5_1).Value && true))))))))))) rfl (fun hb6 => ?_) (fun hb6 => ?_)
        · replace H := ifT H hb6
          refine Ok.seq ?_
          refine Ok.region (σ' := ⟨[(4, (.v (.bool false)))], []⟩) ?_ ?_
          · refine OpsOk.cons rfl (.v (VOk.asg (d := (.v (.bool false))) rfl rfl) rfl) ?_
            exact .done (.mk ⟨.same _, trivial⟩ trivial)
          refine Ok.le (σ' := ⟨[(4, (.v (.bool false)))], []⟩) (.mk ⟨.same _, trivial⟩ trivial) ?_
          refine Ok.ret ?_
          obtain rfl := Option.some.inj H
          exact ⟨.inl rfl, ⟨_, (.cons (.tmp rfl) .nil), rfl⟩, trivial⟩
        · replace H := ifF H hb6
          refine Ok.le (σ' := ⟨[(0, (L 9 e_api_Step a0)), (1, (L 9 e_api_Step a1)), (5, (.v (.int .i64 x5_1)))], []⟩) (.mk ⟨.same _, .same _, .same _, trivial⟩ trivial) ?_
          refine Ok.skip ?_
          refine Ok.region (σ' := ⟨[(0, (L 9 e_api_Step a0)), (1, (L 9 e_api_Step a1)), (5, (.v (.int .i64 (IntKind.i64.wrap (x5_1 + 1)))))], []⟩) ?_ ?_
          · refine OpsOk.cons rfl (.v (VOk.mv (d := (.v (.int .i64 x5_1))) rfl rfl) rfl) ?_
            refine OpsOk.cons rfl (.v (VOk.arith (op := .add) (k := .i64) (a := x5_1) (b := 1) rfl rfl rfl rfl) rfl) ?_
            refine OpsOk.cons rfl (.v (VOk.asg (d := (.v (.int .i64 (IntKind.i64.wrap (x5_1 + 1))))) rfl rfl) rfl) ?_
            exact .done (.mk ⟨.same _, .same _, .same _, trivial⟩ trivial)
          exact ⟨m3, Nat.lt_succ_self m3, (IntKind.i64.wrap (x5_1 + 1)), rfl, H⟩
      · replace H := ifF H hb7
        refine Ok.le (σ' := ⟨[], []⟩) (.mk trivial trivial) ?_
        refine Ok.exit ?_
        refine Ok.seq ?_
        refine Ok.region (σ' := ⟨[(4, (.v (.bool true)))], []⟩) ?_ ?_
        · refine OpsOk.cons rfl (.v (VOk.asg (d := (.v (.bool true))) rfl rfl) rfl) ?_
          exact .done (.mk ⟨.same _, trivial⟩ trivial)
        refine Ok.le (σ' := ⟨[(4, (.v (.bool true)))], []⟩) (.mk ⟨.same _, trivial⟩ trivial) ?_
        refine Ok.ret ?_
        obtain rfl := Option.some.inj H
        exact ⟨.inl rfl, ⟨_, (.cons (.tmp rfl) .nil), rfl⟩, trivial⟩

/-! watchbill/watchbilllaw12.MatchSelects: function 4 -/
def watchbilllaw12_MatchSelects (k : Nat) (a0 : T_api_Node) (a1 : List T_api_Step) : Option Bool := ((watchbilllaw12_awake k).bind fun (t1 : Bool) => (if (!t1) = true then some false else ((watchbilllaw04_Few k a0).bind fun (t3 : Bool) => (((if ((!t3) == false) = true then watchbilllaw10_Few k a1 else some default)).bind fun (t6 : Bool) => (if (((!t3) || (!t6)) || (decide ((a1.length : Int) > 30))) = true then some true else (if (([] : List T_api_Step).length + a1.length) * 112 ≤ 140737488355328 then ((match_Split (([] : List T_api_Step) ++ a1)).bind fun (t12 : (List T_api_Step) × T_api_Step) => ((watchbillref12_Split a1).bind fun (t14 : (List T_api_Step) × T_api_Step) => ((match_Select k a0 a1).bind fun (t16 : (List Int) × Int) => ((watchbillref12_Select k a0 a1).bind fun (t18 : (List Int) × Int) => ((watchbillref10_Same k t12.1 t14.1).bind fun (t20 : Bool) => (((if ((t20 && (t12.2.Kind == t14.2.Kind && (t12.2.Any == t14.2.Any && (t12.2.Name.Space == t14.2.Name.Space && (t12.2.Name.Local == t14.2.Name.Local && (t12.2.Pos == t14.2.Pos && (t12.2.By == t14.2.By && (t12.2.Attr.Space == t14.2.Attr.Space && (t12.2.Attr.Local == t14.2.Attr.Local && (t12.2.Value == t14.2.Value && true)))))))))) == true) = true then watchbillref06_Same k t16.1 t18.1 else some default)).bind fun (t25 : Bool) => some (((t20 && (t12.2.Kind == t14.2.Kind && (t12.2.Any == t14.2.Any && (t12.2.Name.Space == t14.2.Name.Space && (t12.2.Name.Local == t14.2.Name.Local && (t12.2.Pos == t14.2.Pos && (t12.2.By == t14.2.By && (t12.2.Attr.Space == t14.2.Attr.Space && (t12.2.Attr.Local == t14.2.Attr.Local && (t12.2.Value == t14.2.Value && true)))))))))) && t25) && (t16.2 == t18.2)))))))) else none))))))
theorem watchbilllaw12_MatchSelects.ok {k : Nat} {a0 : T_api_Node} {a1 : List T_api_Step} {r : Bool} (H : watchbilllaw12_MatchSelects k a0 a1 = some r) : Vx.Fn Try.prog 4 [(.agg (e_api_Node a0)), (L 9 e_api_Step a1)] [] (.v (.bool r)) [] := by
  unfold watchbilllaw12_MatchSelects at H
  refine Vx.Fn.of_okR Try.func4 rfl (Nat.le_of_ble_eq_true rfl) ?_
  refine Ok.seq ?_
  refine Ok.region (σ' := ⟨[(1, (L 9 e_api_Step a1)), (2, (.bref 2 0))], [(2, (.box true [(.v (.int .i64 a0.Kind)), (S a0.Name.Space), (S a0.Name.Local), (L 3 e_api_Attr a0.Attrs), (L 6 e_api_Node a0.Kids), (S a0.Text)]))]⟩) ?_ ?_
  · refine OpsOk.cut (σ := ⟨[(0, (.agg [(.v (.int .i64 a0.Kind)), (S a0.Name.Space), (S a0.Name.Local), (L 3 e_api_Attr a0.Attrs), (L 6 e_api_Node a0.Kids), (S a0.Text)])), (1, (L 9 e_api_Step a1))], []⟩) (.mk ⟨DLe.of_eq (congrArg D.agg (e_api_Node_c _).symm), .same _, trivial⟩ trivial) ?_
    refine OpsOk.cons rfl (OpOk.box 2 (cells := [(.v (.int .i64 a0.Kind)), (S a0.Name.Space), (S a0.Name.Local), (L 3 e_api_Attr a0.Attrs), (L 6 e_api_Node a0.Kids), (S a0.Text)]) rfl rfl rfl rfl) ?_
    refine OpsOk.cons rfl (.v (VOk.asg (d := (.v (.bool false))) rfl rfl) rfl) ?_
    exact .done (.mk ⟨.same _, .same _, trivial⟩ ⟨.same _, trivial⟩)
  refine Ok.seq ?_
  refine Ok.seq ?_
  obtain ⟨t1, h2, H⟩ := bindE H
  refine Ok.region (σ' := ⟨[(1, (L 9 e_api_Step a1)), (2, (.bref 2 0)), (14, (.v (.bool (!t1))))], [(2, (.box true [(.v (.int .i64 a0.Kind)), (S a0.Name.Space), (S a0.Name.Local), (L 3 e_api_Attr a0.Attrs), (L 6 e_api_Node a0.Kids), (S a0.Text)]))]⟩) ?_ ?_
  · refine OpsOk.cons rfl (.g (GOk.call rfl rfl cl7 rfl (watchbilllaw12_awake.ok h2) rfl) rfl) ?_
    refine OpsOk.cons rfl (.v (VOk.not (b := t1) rfl rfl) rfl) ?_
    exact .done (.mk ⟨.same _, .same _, .same _, trivial⟩ ⟨.same _, trivial⟩)
  refine Ok.test (b := (!t1)) rfl (fun hb31 => ?_) (fun hb31 => ?_)
  · replace H := ifT H hb31
    refine Ok.seq ?_
    refine Ok.region (σ' := ⟨[(4, (.v (.bool false)))], []⟩) ?_ ?_
    · refine OpsOk.cons rfl (.v (VOk.asg (d := (.v (.bool false))) rfl rfl) rfl) ?_
      exact .done (.mk ⟨.same _, trivial⟩ trivial)
    refine Ok.le (σ' := ⟨[(4, (.v (.bool false)))], []⟩) (.mk ⟨.same _, trivial⟩ trivial) ?_
    refine Ok.ret ?_
    obtain rfl := Option.some.inj H
    exact ⟨.inl rfl, ⟨_, (.cons (.tmp rfl) .nil), rfl⟩, trivial⟩
  · replace H := ifF H hb31
    refine Ok.le (σ' := ⟨[(1, (L 9 e_api_Step a1)), (2, (.bref 2 0))], [(2, (.box true [(.v (.int .i64 a0.Kind)), (S a0.Name.Space), (S a0.Name.Local), (L 3 e_api_Attr a0.Attrs), (L 6 e_api_Node a0.Kids), (S a0.Text)]))]⟩) (.mk ⟨.same _, .same _, trivial⟩ ⟨.same _, trivial⟩) ?_
    refine Ok.skip ?_
    refine Ok.seq ?_
    refine Ok.seq ?_
    obtain ⟨t3, h4, H⟩ := bindE H
    obtain ⟨t6, h7, H⟩ := bindE H
    refine Ok.region (σ' := ⟨[(1, (L 9 e_api_Step a1)), (2, (.bref 2 0)), (27, (.v (.bool (((!t3) || (!t6)) || (decide ((a1.length : Int) > 30))))))], [(2, (.box true [(.v (.int .i64 a0.Kind)), (S a0.Name.Space), (S a0.Name.Local), (L 3 e_api_Attr a0.Attrs), (L 6 e_api_Node a0.Kids), (S a0.Text)]))]⟩) ?_ ?_
    · refine OpsOk.cons rfl (.v (VOk.to (d' := (.agg (e_api_Node a0))) (.loadBAgg rfl Try.underlying27 rfl sz27 rfl rfl rfl) (congrArg D.agg (e_api_Node_c a0).symm)) rfl) ?_
      refine OpsOk.cons rfl (.g (GOk.call rfl rfl cl8 rfl (watchbilllaw04_Few.ok h4) rfl) rfl) ?_
      refine OpsOk.cons rfl (.v (VOk.not (b := t3) rfl rfl) rfl) ?_
      refine OpsOk.cons rfl (.v (VOk.mv (d := (.v (.bool (!t3)))) rfl rfl) rfl) ?_
      refine OpsOk.consI rfl rfl rfl (.one rfl) rfl (fun hw5 => (VOk.g (VOk.mv (d := (L 9 e_api_Step a1)) rfl rfl))) ?_
      refine OpsOk.consI rfl rfl rfl (.one rfl) rfl (fun hw5 => (GOk.fr (fr' := [(19, (L 9 e_api_Step a1))]) ⟨DLe.of_eq (cT hw5).symm, trivial⟩ (GOk.call rfl rfl cl9 rfl (watchbilllaw10_Few.ok (ifT h7 hw5)) rfl))) ?_
      refine OpsOk.consI rfl rfl rfl (.one rfl) rfl (fun hw5 => (GOk.fr (fr' := [(20, (.v (.bool t6)))]) ⟨DLe.of_eq (cT hw5).symm, trivial⟩ (VOk.g (VOk.not (b := t6) rfl rfl)))) ?_
      refine OpsOk.cons rfl (.v (VOk.to (VOk.pickI (b := (!t3)) (p := true) (q := (!t6)) rfl rfl (fun hp8 => rfl) (fun hp8 => (cT (f_beq hp8)))) (pickOr (!t3) (!t6))) rfl) ?_
      refine OpsOk.cons rfl (.v (VOk.mv (d := (.v (.bool ((!t3) || (!t6))))) rfl rfl) rfl) ?_
      refine OpsOk.consI rfl rfl rfl (.one rfl) rfl (fun hw9 => (VOk.g (VOk.mv (d := (L 9 e_api_Step a1)) rfl rfl))) ?_
      refine OpsOk.consI rfl rfl rfl (.one rfl) rfl (fun hw9 => (GOk.fr (fr' := [(24, (L 9 e_api_Step a1))]) ⟨DLe.of_eq (cT hw9).symm, trivial⟩ (VOk.g (VOk.lenL (e := e_api_Step) (xs := a1) rfl Try.underlying28 rfl)))) ?_
      refine OpsOk.consI rfl rfl rfl (.one rfl) rfl (fun hw9 => (GOk.fr (fr' := [(25, (.v (.int .i64 (a1.length : Int))))]) ⟨DLe.of_eq (cT hw9).symm, trivial⟩ (VOk.g (VOk.arith (op := .gtr) (k := .i64) (a := (a1.length : Int)) (b := 30) rfl rfl rfl rfl)))) ?_
      refine OpsOk.cons rfl (.v (VOk.to (VOk.pickI (b := ((!t3) || (!t6))) (p := true) (q := (decide ((a1.length : Int) > 30))) rfl rfl (fun hp10 => rfl) (fun hp10 => (cT (f_beq hp10)))) (pickOr ((!t3) || (!t6)) (decide ((a1.length : Int) > 30)))) rfl) ?_
      exact .done (.mk ⟨.same _, .same _, .same _, trivial⟩ ⟨.same _, trivial⟩)
    refine Ok.test (b := (((!t3) || (!t6)) || (decide ((a1.length : Int) > 30)))) rfl (fun hb30 => ?_) (fun hb30 => ?_)
    · replace H := ifT H hb30
      refine Ok.seq ?_
      refine Ok.region (σ' := ⟨[(4, (.v (.bool true)))], []⟩) ?_ ?_
      · refine OpsOk.cons rfl (.v (VOk.asg (d := (.v (.bool true))) rfl rfl) rfl) ?_
        exact .done (.mk ⟨.same _, trivial⟩ trivial)
      refine Ok.le (σ' := ⟨[(4, (.v (.bool true)))], []⟩) (.mk ⟨.same _, trivial⟩ trivial) ?_
      refine Ok.ret ?_
      obtain rfl := Option.some.inj H
      exact ⟨.inl rfl, ⟨_, (.cons (.tmp rfl) .nil), rfl⟩, trivial⟩
    · replace H := ifF H hb30
      refine Ok.le (σ' := ⟨[(1, (L 9 e_api_Step a1)), (2, (.bref 2 0))], [(2, (.box true [(.v (.int .i64 a0.Kind)), (S a0.Name.Space), (S a0.Name.Local), (L 3 e_api_Attr a0.Attrs), (L 6 e_api_Node a0.Kids), (S a0.Text)]))]⟩) (.mk ⟨.same _, .same _, trivial⟩ ⟨.same _, trivial⟩) ?_
      refine Ok.skip ?_
      refine Ok.seq ?_
      obtain ⟨c11, H⟩ := assertE H
      obtain ⟨t12, h13, H⟩ := bindE H
      refine Ok.region (σ' := ⟨[(1, (L 9 e_api_Step a1)), (2, (.bref 2 0)), (5, (L 9 e_api_Step t12.1)), (6, (.bref 6 0))], [(2, (.box true [(.v (.int .i64 a0.Kind)), (S a0.Name.Space), (S a0.Name.Local), (L 3 e_api_Attr a0.Attrs), (L 6 e_api_Node a0.Kids), (S a0.Text)])), (6, (.box true [(.v (.int .i64 t12.2.Kind)), (.v (.bool t12.2.Any)), (S t12.2.Name.Space), (S t12.2.Name.Local), (.v (.int .i64 t12.2.Pos)), (.v (.bool t12.2.By)), (S t12.2.Attr.Space), (S t12.2.Attr.Local), (S t12.2.Value)]))]⟩) ?_ ?_
      · refine OpsOk.cons rfl (.g (GOk.to (d' := (.clist 9 (List.map e_api_Step ([] : List T_api_Step)))) (GOk.litC rfl Try.underlying28 sz30 zs30 rfl rfl rfl rfl) rfl) rfl) ?_
        refine OpsOk.cons rfl (.v (VOk.mv (d := (L 9 e_api_Step a1)) rfl rfl) rfl) ?_
        refine OpsOk.cons rfl (.g (GOk.appendC (e := e_api_Step) (xs := ([] : List T_api_Step)) (ys := a1) rfl Try.underlying28 elt30 (.same _) rfl c11) rfl) ?_
        refine OpsOk.cons rfl (.g (GOk.call rfl rfl cl15 rfl (match_Split.ok h13) rfl) rfl) ?_
        refine OpsOk.cons rfl (.v (VOk.mv (d := (.tup [(L 9 e_api_Step t12.1), (.agg (e_api_Step t12.2))])) rfl rfl) rfl) ?_
        refine OpsOk.cons rfl (.v (VOk.extract (d := (L 9 e_api_Step t12.1)) rfl rfl rfl) rfl) ?_
        refine OpsOk.cons rfl (.v (VOk.extract (d := (.agg (e_api_Step t12.2))) rfl rfl rfl) rfl) ?_
        refine OpsOk.cons rfl (OpOk.alloc 6 [none, none, none, none, none, none, none, none, none] rfl zo30 rfl rfl) ?_
        refine OpsOk.cons rfl (.v (VOk.asg (d := (L 9 e_api_Step t12.1)) rfl rfl) rfl) ?_
        refine OpsOk.cons rfl (OpOk.to (σ2 := St.put ⟨_, (6, (.box true [(.v (.int .i64 t12.2.Kind)), (.v (.bool t12.2.Any)), (S t12.2.Name.Space), (S t12.2.Name.Local), (.v (.int .i64 t12.2.Pos)), (.v (.bool t12.2.By)), (S t12.2.Attr.Space), (S t12.2.Attr.Local), (S t12.2.Value)])) :: _⟩ _ .junk) (.storeB rfl sz30 rfl rfl rfl rfl rfl) rfl) ?_
        exact .done (.mk ⟨.same _, .same _, .same _, .same _, trivial⟩ ⟨.same _, .same _, trivial⟩)
      refine Ok.seq ?_
      obtain ⟨t14, h15, H⟩ := bindE H
      refine Ok.region (σ' := ⟨[(1, (L 9 e_api_Step a1)), (2, (.bref 2 0)), (5, (L 9 e_api_Step t12.1)), (6, (.bref 6 0)), (7, (L 9 e_api_Step t14.1)), (8, (.bref 8 0))], [(2, (.box true [(.v (.int .i64 a0.Kind)), (S a0.Name.Space), (S a0.Name.Local), (L 3 e_api_Attr a0.Attrs), (L 6 e_api_Node a0.Kids), (S a0.Text)])), (6, (.box true [(.v (.int .i64 t12.2.Kind)), (.v (.bool t12.2.Any)), (S t12.2.Name.Space), (S t12.2.Name.Local), (.v (.int .i64 t12.2.Pos)), (.v (.bool t12.2.By)), (S t12.2.Attr.Space), (S t12.2.Attr.Local), (S t12.2.Value)])), (8, (.box true [(.v (.int .i64 t14.2.Kind)), (.v (.bool t14.2.Any)), (S t14.2.Name.Space), (S t14.2.Name.Local), (.v (.int .i64 t14.2.Pos)), (.v (.bool t14.2.By)), (S t14.2.Attr.Space), (S t14.2.Attr.Local), (S t14.2.Value)]))]⟩) ?_ ?_
      · refine OpsOk.cons rfl (.v (VOk.mv (d := (L 9 e_api_Step a1)) rfl rfl) rfl) ?_
        refine OpsOk.cons rfl (.g (GOk.call rfl rfl cl16 rfl (watchbillref12_Split.ok h15) rfl) rfl) ?_
        refine OpsOk.cons rfl (.v (VOk.mv (d := (.tup [(L 9 e_api_Step t14.1), (.agg (e_api_Step t14.2))])) rfl rfl) rfl) ?_
        refine OpsOk.cons rfl (.v (VOk.extract (d := (L 9 e_api_Step t14.1)) rfl rfl rfl) rfl) ?_
        refine OpsOk.cons rfl (.v (VOk.extract (d := (.agg (e_api_Step t14.2))) rfl rfl rfl) rfl) ?_
        refine OpsOk.cons rfl (OpOk.alloc 8 [none, none, none, none, none, none, none, none, none] rfl zo30 rfl rfl) ?_
        refine OpsOk.cons rfl (.v (VOk.asg (d := (L 9 e_api_Step t14.1)) rfl rfl) rfl) ?_
        refine OpsOk.cons rfl (OpOk.to (σ2 := St.put ⟨_, (8, (.box true [(.v (.int .i64 t14.2.Kind)), (.v (.bool t14.2.Any)), (S t14.2.Name.Space), (S t14.2.Name.Local), (.v (.int .i64 t14.2.Pos)), (.v (.bool t14.2.By)), (S t14.2.Attr.Space), (S t14.2.Attr.Local), (S t14.2.Value)])) :: _⟩ _ .junk) (.storeB rfl sz30 rfl rfl rfl rfl rfl) rfl) ?_
        exact .done (.mk ⟨.same _, .same _, .same _, .same _, .same _, .same _, trivial⟩ ⟨.same _, .same _, .same _, trivial⟩)
      refine Ok.seq ?_
      obtain ⟨t16, h17, H⟩ := bindE H
      refine Ok.region (σ' := ⟨[(1, (L 9 e_api_Step a1)), (2, (.bref 2 0)), (5, (L 9 e_api_Step t12.1)), (6, (.bref 6 0)), (7, (L 9 e_api_Step t14.1)), (8, (.bref 8 0)), (9, (L 1 (eI .i64) t16.1)), (10, (.v (.int .i64 t16.2)))], [(2, (.box true [(.v (.int .i64 a0.Kind)), (S a0.Name.Space), (S a0.Name.Local), (L 3 e_api_Attr a0.Attrs), (L 6 e_api_Node a0.Kids), (S a0.Text)])), (6, (.box true [(.v (.int .i64 t12.2.Kind)), (.v (.bool t12.2.Any)), (S t12.2.Name.Space), (S t12.2.Name.Local), (.v (.int .i64 t12.2.Pos)), (.v (.bool t12.2.By)), (S t12.2.Attr.Space), (S t12.2.Attr.Local), (S t12.2.Value)])), (8, (.box true [(.v (.int .i64 t14.2.Kind)), (.v (.bool t14.2.Any)), (S t14.2.Name.Space), (S t14.2.Name.Local), (.v (.int .i64 t14.2.Pos)), (.v (.bool t14.2.By)), (S t14.2.Attr.Space), (S t14.2.Attr.Local), (S t14.2.Value)]))]⟩) ?_ ?_
      · refine OpsOk.cons rfl (.v (VOk.to (d' := (.agg (e_api_Node a0))) (.loadBAgg rfl Try.underlying27 rfl sz27 rfl rfl rfl) (congrArg D.agg (e_api_Node_c a0).symm)) rfl) ?_
        refine OpsOk.cons rfl (.v (VOk.mv (d := (L 9 e_api_Step a1)) rfl rfl) rfl) ?_
        refine OpsOk.cons rfl (.g (GOk.call rfl rfl cl17 rfl (match_Select.ok h17) rfl) rfl) ?_
        refine OpsOk.cons rfl (.v (VOk.mv (d := (.tup [(L 1 (eI .i64) t16.1), (.v (.int .i64 t16.2))])) rfl rfl) rfl) ?_
        refine OpsOk.cons rfl (.v (VOk.extract (d := (L 1 (eI .i64) t16.1)) rfl rfl rfl) rfl) ?_
        refine OpsOk.cons rfl (.v (VOk.extract (d := (.v (.int .i64 t16.2))) rfl rfl rfl) rfl) ?_
        refine OpsOk.cons rfl (.v (VOk.asg (d := (L 1 (eI .i64) t16.1)) rfl rfl) rfl) ?_
        refine OpsOk.cons rfl (.v (VOk.asg (d := (.v (.int .i64 t16.2))) rfl rfl) rfl) ?_
        exact .done (.mk ⟨.same _, .same _, .same _, .same _, .same _, .same _, .same _, .same _, trivial⟩ ⟨.same _, .same _, .same _, trivial⟩)
      refine Ok.seq ?_
      obtain ⟨t18, h19, H⟩ := bindE H
      refine Ok.region (σ' := ⟨[(5, (L 9 e_api_Step t12.1)), (6, (.bref 6 0)), (7, (L 9 e_api_Step t14.1)), (8, (.bref 8 0)), (9, (L 1 (eI .i64) t16.1)), (10, (.v (.int .i64 t16.2))), (11, (L 1 (eI .i64) t18.1)), (12, (.v (.int .i64 t18.2)))], [(6, (.box true [(.v (.int .i64 t12.2.Kind)), (.v (.bool t12.2.Any)), (S t12.2.Name.Space), (S t12.2.Name.Local), (.v (.int .i64 t12.2.Pos)), (.v (.bool t12.2.By)), (S t12.2.Attr.Space), (S t12.2.Attr.Local), (S t12.2.Value)])), (8, (.box true [(.v (.int .i64 t14.2.Kind)), (.v (.bool t14.2.Any)), (S t14.2.Name.Space), (S t14.2.Name.Local), (.v (.int .i64 t14.2.Pos)), (.v (.bool t14.2.By)), (S t14.2.Attr.Space), (S t14.2.Attr.Local), (S t14.2.Value)]))]⟩) ?_ ?_
      · refine OpsOk.cons rfl (.v (VOk.to (d' := (.agg (e_api_Node a0))) (.loadBAgg rfl Try.underlying27 rfl sz27 rfl rfl rfl) (congrArg D.agg (e_api_Node_c a0).symm)) rfl) ?_
        refine OpsOk.cons rfl (.v (VOk.mv (d := (L 9 e_api_Step a1)) rfl rfl) rfl) ?_
        refine OpsOk.cons rfl (.g (GOk.call rfl rfl cl18 rfl (watchbillref12_Select.ok h19) rfl) rfl) ?_
        refine OpsOk.cons rfl (.v (VOk.mv (d := (.tup [(L 1 (eI .i64) t18.1), (.v (.int .i64 t18.2))])) rfl rfl) rfl) ?_
        refine OpsOk.cons rfl (.v (VOk.extract (d := (L 1 (eI .i64) t18.1)) rfl rfl rfl) rfl) ?_
        refine OpsOk.cons rfl (.v (VOk.extract (d := (.v (.int .i64 t18.2))) rfl rfl rfl) rfl) ?_
        refine OpsOk.cons rfl (.v (VOk.asg (d := (L 1 (eI .i64) t18.1)) rfl rfl) rfl) ?_
        refine OpsOk.cons rfl (.v (VOk.asg (d := (.v (.int .i64 t18.2))) rfl rfl) rfl) ?_
        exact .done (.mk ⟨.same _, .same _, .same _, .same _, .same _, .same _, .same _, .same _, trivial⟩ ⟨.same _, .same _, trivial⟩)
      refine Ok.seq ?_
      obtain ⟨t20, h21, H⟩ := bindE H
      obtain ⟨t25, h26, H⟩ := bindE H
      refine Ok.region (σ' := ⟨[(4, (.v (.bool (((t20 && (t12.2.Kind == t14.2.Kind && (t12.2.Any == t14.2.Any && (t12.2.Name.Space == t14.2.Name.Space && (t12.2.Name.Local == t14.2.Name.Local && (t12.2.Pos == t14.2.Pos && (t12.2.By == t14.2.By && (t12.2.Attr.Space == t14.2.Attr.Space && (t12.2.Attr.Local == t14.2.Attr.Local && (t12.2.Value == t14.2.Value && true)))))))))) && t25) && (t16.2 == t18.2)))))], []⟩) ?_ ?_
      · refine OpsOk.cons rfl (.v (VOk.mv (d := (L 9 e_api_Step t12.1)) rfl rfl) rfl) ?_
        refine OpsOk.cons rfl (.v (VOk.mv (d := (L 9 e_api_Step t14.1)) rfl rfl) rfl) ?_
        refine OpsOk.cons rfl (.g (GOk.call rfl rfl cl19 rfl (watchbillref10_Same.ok h21) rfl) rfl) ?_
        refine OpsOk.cons rfl (.v (VOk.mv (d := (.v (.bool t20))) rfl rfl) rfl) ?_
        refine OpsOk.consI rfl rfl rfl (.one rfl) rfl (fun hw22 => (VOk.g (VOk.to (d' := (.agg (e_api_Step t12.2))) (.loadBAgg rfl Try.underlying30 rfl sz30 rfl rfl rfl) rfl))) ?_
        refine OpsOk.consI rfl rfl rfl (.one rfl) rfl (fun hw22 => (VOk.g (VOk.to (d' := (.agg (e_api_Step t14.2))) (.loadBAgg rfl Try.underlying30 rfl sz30 rfl rfl rfl) rfl))) ?_
        refine OpsOk.consI rfl rfl rfl (.one rfl) rfl (fun hw22 => (GOk.fr (fr' := [(56, (.agg (e_api_Step t12.2))), (57, (.agg (e_api_Step t14.2)))]) ⟨DLe.of_eq (cT hw22).symm, DLe.of_eq (cT hw22).symm, trivial⟩ (VOk.g (VOk.eqS' (op := .eql) (d := (.v (.bool (t12.2.Kind == t14.2.Kind && (t12.2.Any == t14.2.Any && (t12.2.Name.Space == t14.2.Name.Space && (t12.2.Name.Local == t14.2.Name.Local && (t12.2.Pos == t14.2.Pos && (t12.2.By == t14.2.By && (t12.2.Attr.Space == t14.2.Attr.Space && (t12.2.Attr.Local == t14.2.Attr.Local && (t12.2.Value == t14.2.Value && true)))))))))))) rfl (.inl rfl) (eqt30 9997) ag30 eg30 rfl rfl rfl rfl)))) ?_
        refine OpsOk.cons rfl (.v (VOk.to (VOk.pickI (b := t20) (p := (t12.2.Kind == t14.2.Kind && (t12.2.Any == t14.2.Any && (t12.2.Name.Space == t14.2.Name.Space && (t12.2.Name.Local == t14.2.Name.Local && (t12.2.Pos == t14.2.Pos && (t12.2.By == t14.2.By && (t12.2.Attr.Space == t14.2.Attr.Space && (t12.2.Attr.Local == t14.2.Attr.Local && (t12.2.Value == t14.2.Value && true)))))))))) (q := false) rfl rfl (fun hp23 => (cT (t_beq hp23))) (fun hp23 => rfl)) (pickAnd t20 (t12.2.Kind == t14.2.Kind && (t12.2.Any == t14.2.Any && (t12.2.Name.Space == t14.2.Name.Space && (t12.2.Name.Local == t14.2.Name.Local && (t12.2.Pos == t14.2.Pos && (t12.2.By == t14.2.By && (t12.2.Attr.Space == t14.2.Attr.Space && (t12.2.Attr.Local == t14.2.Attr.Local && (t12.2.Value == t14.2.Value && true))))))))))) rfl) ?_
        refine OpsOk.cons rfl (.v (VOk.mv (d := (.v (.bool (t20 && (t12.2.Kind == t14.2.Kind && (t12.2.Any == t14.2.Any && (t12.2.Name.Space == t14.2.Name.Space && (t12.2.Name.Local == t14.2.Name.Local && (t12.2.Pos == t14.2.Pos && (t12.2.By == t14.2.By && (t12.2.Attr.Space == t14.2.Attr.Space && (t12.2.Attr.Local == t14.2.Attr.Local && (t12.2.Value == t14.2.Value && true))))))))))))) rfl rfl) rfl) ?_
        refine OpsOk.consI rfl rfl rfl (.one rfl) rfl (fun hw24 => (VOk.g (VOk.mv (d := (L 1 (eI .i64) t16.1)) rfl rfl))) ?_
        refine OpsOk.consI rfl rfl rfl (.one rfl) rfl (fun hw24 => (VOk.g (VOk.mv (d := (L 1 (eI .i64) t18.1)) rfl rfl))) ?_
        refine OpsOk.consI rfl rfl rfl (.one rfl) rfl (fun hw24 => (GOk.fr (fr' := [(61, (L 1 (eI .i64) t16.1)), (62, (L 1 (eI .i64) t18.1))]) ⟨DLe.of_eq (cT hw24).symm, DLe.of_eq (cT hw24).symm, trivial⟩ (GOk.call rfl rfl cl14 rfl (watchbillref06_Same.ok (ifT h26 hw24)) rfl))) ?_
        refine OpsOk.cons rfl (.v (VOk.to (VOk.pickI (b := (t20 && (t12.2.Kind == t14.2.Kind && (t12.2.Any == t14.2.Any && (t12.2.Name.Space == t14.2.Name.Space && (t12.2.Name.Local == t14.2.Name.Local && (t12.2.Pos == t14.2.Pos && (t12.2.By == t14.2.By && (t12.2.Attr.Space == t14.2.Attr.Space && (t12.2.Attr.Local == t14.2.Attr.Local && (t12.2.Value == t14.2.Value && true))))))))))) (p := t25) (q := false) rfl rfl (fun hp27 => (cT (t_beq hp27))) (fun hp27 => rfl)) (pickAnd (t20 && (t12.2.Kind == t14.2.Kind && (t12.2.Any == t14.2.Any && (t12.2.Name.Space == t14.2.Name.Space && (t12.2.Name.Local == t14.2.Name.Local && (t12.2.Pos == t14.2.Pos && (t12.2.By == t14.2.By && (t12.2.Attr.Space == t14.2.Attr.Space && (t12.2.Attr.Local == t14.2.Attr.Local && (t12.2.Value == t14.2.Value && true)))))))))) t25)) rfl) ?_
        refine OpsOk.cons rfl (.v (VOk.mv (d := (.v (.bool ((t20 && (t12.2.Kind == t14.2.Kind && (t12.2.Any == t14.2.Any && (t12.2.Name.Space == t14.2.Name.Space && (t12.2.Name.Local == t14.2.Name.Local && (t12.2.Pos == t14.2.Pos && (t12.2.By == t14.2.By && (t12.2.Attr.Space == t14.2.Attr.Space && (t12.2.Attr.Local == t14.2.Attr.Local && (t12.2.Value == t14.2.Value && true)))))))))) && t25)))) rfl rfl) rfl) ?_
        refine OpsOk.consI rfl rfl rfl (.one rfl) rfl (fun hw28 => (VOk.g (VOk.mv (d := (.v (.int .i64 t16.2))) rfl rfl))) ?_
        refine OpsOk.consI rfl rfl rfl (.one rfl) rfl (fun hw28 => (VOk.g (VOk.mv (d := (.v (.int .i64 t18.2))) rfl rfl))) ?_
        refine OpsOk.consI rfl rfl rfl (.one rfl) rfl (fun hw28 => (GOk.fr (fr' := [(66, (.v (.int .i64 t16.2))), (67, (.v (.int .i64 t18.2)))]) ⟨DLe.of_eq (cT hw28).symm, DLe.of_eq (cT hw28).symm, trivial⟩ (VOk.g (VOk.arith (op := .eql) (k := .i64) (a := t16.2) (b := t18.2) rfl rfl rfl rfl)))) ?_
        refine OpsOk.cons rfl (.v (VOk.to (VOk.pickI (b := ((t20 && (t12.2.Kind == t14.2.Kind && (t12.2.Any == t14.2.Any && (t12.2.Name.Space == t14.2.Name.Space && (t12.2.Name.Local == t14.2.Name.Local && (t12.2.Pos == t14.2.Pos && (t12.2.By == t14.2.By && (t12.2.Attr.Space == t14.2.Attr.Space && (t12.2.Attr.Local == t14.2.Attr.Local && (t12.2.Value == t14.2.Value && true)))))))))) && t25)) (p := (t16.2 == t18.2)) (q := false) rfl rfl (fun hp29 => (cT (t_beq hp29))) (fun hp29 => rfl)) (pickAnd ((t20 && (t12.2.Kind == t14.2.Kind && (t12.2.Any == t14.2.Any && (t12.2.Name.Space == t14.2.Name.Space && (t12.2.Name.Local == t14.2.Name.Local && (t12.2.Pos == t14.2.Pos && (t12.2.By == t14.2.By && (t12.2.Attr.Space == t14.2.Attr.Space && (t12.2.Attr.Local == t14.2.Attr.Local && (t12.2.Value == t14.2.Value && true)))))))))) && t25) (t16.2 == t18.2))) rfl) ?_
        refine OpsOk.cons rfl (.v (VOk.asg (d := (.v (.bool (((t20 && (t12.2.Kind == t14.2.Kind && (t12.2.Any == t14.2.Any && (t12.2.Name.Space == t14.2.Name.Space && (t12.2.Name.Local == t14.2.Name.Local && (t12.2.Pos == t14.2.Pos && (t12.2.By == t14.2.By && (t12.2.Attr.Space == t14.2.Attr.Space && (t12.2.Attr.Local == t14.2.Attr.Local && (t12.2.Value == t14.2.Value && true)))))))))) && t25) && (t16.2 == t18.2))))) rfl rfl) rfl) ?_
        exact .done (.mk ⟨.same _, trivial⟩ trivial)
      refine Ok.le (σ' := ⟨[(4, (.v (.bool (((t20 && (t12.2.Kind == t14.2.Kind && (t12.2.Any == t14.2.Any && (t12.2.Name.Space == t14.2.Name.Space && (t12.2.Name.Local == t14.2.Name.Local && (t12.2.Pos == t14.2.Pos && (t12.2.By == t14.2.By && (t12.2.Attr.Space == t14.2.Attr.Space && (t12.2.Attr.Local == t14.2.Attr.Local && (t12.2.Value == t14.2.Value && true)))))))))) && t25) && (t16.2 == t18.2)))))], []⟩) (.mk ⟨.same _, trivial⟩ trivial) ?_
      refine Ok.ret ?_
      obtain rfl := Option.some.inj H
      exact ⟨.inl rfl, ⟨_, (.cons (.tmp rfl) .nil), rfl⟩, trivial⟩

/-! watchbill/path.Places: function 21 -/
def path_Places.l1 (k : Nat) (c0 : List (List Int) → Int → Option (List (List Int))) (a0 : T_api_Node) (x15_1 : Int) (t7 : (List (List Int))) : Nat → List (List Int) → Int → Option (List (List Int))
  | 0, _, _ => none
  | m13 + 1, y11_10, x23_9 => (if (decide (x23_9 < (t7.length : Int))) = true then (if (0 : Int) ≤ x23_9 ∧ x23_9 < (t7.length : Int) then (if (([x15_1] : List Int).length + (rd t7 x23_9).length) * 8 ≤ 140737488355328 then (if (y11_10.length + ([(([x15_1] : List Int) ++ (rd t7 x23_9))] : List (List Int)).length) * 24 ≤ 140737488355328 then path_Places.l1 k c0 a0 x15_1 t7 m13 (y11_10 ++ ([(([x15_1] : List Int) ++ (rd t7 x23_9))] : List (List Int))) (IntKind.i64.wrap (x23_9 + 1)) else none) else none) else none) else c0 y11_10 (IntKind.i64.wrap (x15_1 + 1)))
def path_Places.l0 (k : Nat) (self : T_api_Node → Option (List (List Int))) (a0 : T_api_Node) : Nat → List (List Int) → Int → Option (List (List Int))
  | 0, _, _ => none
  | m5 + 1, y11_2, x15_1 => (if (decide (x15_1 < (a0.Kids.length : Int))) = true then (if (0 : Int) ≤ x15_1 ∧ x15_1 < (a0.Kids.length : Int) then ((self (rd a0.Kids x15_1)).bind fun (t7 : (List (List Int))) => path_Places.l1 k (path_Places.l0 k self a0 m5) a0 x15_1 t7 k y11_2 0) else none) else some y11_2)
def path_Places : Nat → T_api_Node → Option (List (List Int))
  | 0, _ => none
  | k + 1, a0 => (if (a0.Kind != 1) = true then some ([] : List (List Int)) else path_Places.l0 k (path_Places k) a0 k ([([] : List Int)] : List (List Int)) 0)
theorem path_Places.ok {k : Nat} {a0 : T_api_Node} {r : (List (List Int))} (H : path_Places k a0 = some r) : Vx.Fn Try.prog 21 [(.agg (e_api_Node a0))] [] (L 1 (eL 1 (eI .i64)) r) [] := by
  induction k generalizing a0 r with
  | zero => exact absurd H (by simp [path_Places])
  | succ k ih =>
    unfold path_Places at H
    refine Vx.Fn.of_okR Try.func21 rfl (Nat.le_of_ble_eq_true rfl) ?_
    refine Ok.seq ?_
    refine Ok.region (σ' := ⟨[(1, (.bref 1 0))], [(1, (.box true [(.v (.int .i64 a0.Kind)), (S a0.Name.Space), (S a0.Name.Local), (L 3 e_api_Attr a0.Attrs), (L 6 e_api_Node a0.Kids), (S a0.Text)]))]⟩) ?_ ?_
    · refine OpsOk.cut (σ := ⟨[(0, (.agg [(.v (.int .i64 a0.Kind)), (S a0.Name.Space), (S a0.Name.Local), (L 3 e_api_Attr a0.Attrs), (L 6 e_api_Node a0.Kids), (S a0.Text)]))], []⟩) (.mk ⟨DLe.of_eq (congrArg D.agg (e_api_Node_c _).symm), trivial⟩ trivial) ?_
      refine OpsOk.cons rfl (OpOk.box 1 (cells := [(.v (.int .i64 a0.Kind)), (S a0.Name.Space), (S a0.Name.Local), (L 3 e_api_Attr a0.Attrs), (L 6 e_api_Node a0.Kids), (S a0.Text)]) rfl rfl rfl rfl) ?_
      refine OpsOk.cons rfl (.v (VOk.asg (d := (.v (.slice none 0 0))) rfl rfl) rfl) ?_
      exact .done (.mk ⟨.same _, trivial⟩ ⟨.same _, trivial⟩)
    refine Ok.seq ?_
    refine Ok.seq ?_
    refine Ok.region (σ' := ⟨[(1, (.bref 1 0)), (10, (.v (.bool (a0.Kind != 1))))], [(1, (.box true [(.v (.int .i64 a0.Kind)), (S a0.Name.Space), (S a0.Name.Local), (L 3 e_api_Attr a0.Attrs), (L 6 e_api_Node a0.Kids), (S a0.Text)]))]⟩) ?_ ?_
    · refine OpsOk.cons rfl (.v (VOk.to (VOk.fieldB rfl Try.underlying27 rfl sz3 rfl rfl) rfl) rfl) ?_
      refine OpsOk.cons rfl (.v (VOk.loadB (d := (.v (.int .i64 a0.Kind))) rfl Try.underlying3 rfl rfl rfl rfl) rfl) ?_
      refine OpsOk.cons rfl (.v (VOk.arith (op := .neq) (k := .i64) (a := a0.Kind) (b := 1) rfl rfl rfl rfl) rfl) ?_
      exact .done (.mk ⟨.same _, .same _, trivial⟩ ⟨.same _, trivial⟩)
    refine Ok.test (b := (a0.Kind != 1)) rfl (fun hb19 => ?_) (fun hb19 => ?_)
    · replace H := ifT H hb19
      refine Ok.seq ?_
      refine Ok.region (σ' := ⟨[(2, (.v (.slice none 0 0)))], []⟩) ?_ ?_
      · refine OpsOk.cons rfl (.v (VOk.asg (d := (.v (.slice none 0 0))) rfl rfl) rfl) ?_
        exact .done (.mk ⟨.same _, trivial⟩ trivial)
      refine Ok.le (σ' := ⟨[(2, (L 1 (eL 1 (eI .i64)) ([] : List (List Int))))], []⟩) (.mk ⟨.nil _, trivial⟩ trivial) ?_
      refine Ok.ret ?_
      obtain rfl := Option.some.inj H
      exact ⟨.inl rfl, ⟨_, (.cons (.tmp rfl) .nil), rfl⟩, trivial⟩
    · replace H := ifF H hb19
      refine Ok.le (σ' := ⟨[(1, (.bref 1 0))], [(1, (.box true [(.v (.int .i64 a0.Kind)), (S a0.Name.Space), (S a0.Name.Local), (L 3 e_api_Attr a0.Attrs), (L 6 e_api_Node a0.Kids), (S a0.Text)]))]⟩) (.mk ⟨.same _, trivial⟩ ⟨.same _, trivial⟩) ?_
      refine Ok.skip ?_
      refine Ok.seq ?_
      refine Ok.region (σ' := ⟨[(1, (.bref 1 0)), (3, (.sref 11))], [(1, (.box true [(.v (.int .i64 a0.Kind)), (S a0.Name.Space), (S a0.Name.Local), (L 3 e_api_Attr a0.Attrs), (L 6 e_api_Node a0.Kids), (S a0.Text)])), (11, (.rows true 39 1 (([([] : List Int)] : List (List Int)).map (eL 1 (eI .i64)))))]⟩) ?_ ?_
      · refine OpsOk.cons rfl (OpOk.litTE 11 rfl rfl Try.underlying34 sz39 zs39 rfl (nilEv_le 1 _) (rows := ([([] : List Int)] : List (List Int)).map (eL 1 (eI .i64))) rfl rfl rfl rfl) ?_
        refine OpsOk.cons rfl (.v (VOk.asg (d := (.sref 11)) rfl rfl) rfl) ?_
        exact .done (.mk ⟨.same _, .same _, trivial⟩ ⟨.same _, .same _, trivial⟩)
      refine Ok.seq ?_
      refine Ok.seq ?_
      refine Ok.region (σ' := ⟨[(3, (.sref 11)), (13, (L 6 e_api_Node a0.Kids)), (14, (.v (.int .i64 (a0.Kids.length : Int)))), (15, (.v (.int .i64 0)))], [(11, (.rows true 39 1 (([([] : List Int)] : List (List Int)).map (eL 1 (eI .i64)))))]⟩) ?_ ?_
      · refine OpsOk.cons rfl (.v (VOk.to (VOk.fieldB rfl Try.underlying27 rfl sz25 rfl rfl) rfl) rfl) ?_
        refine OpsOk.cons rfl (.v (VOk.loadB (d := (L 6 e_api_Node a0.Kids)) rfl Try.underlying25 rfl rfl rfl rfl) rfl) ?_
        refine OpsOk.cons rfl (.v (VOk.lenL (e := e_api_Node) (xs := a0.Kids) rfl Try.underlying25 rfl) rfl) ?_
        refine OpsOk.cons rfl (.v (VOk.mv (d := (.v (.int .i64 0))) rfl rfl) rfl) ?_
        exact .done (.mk ⟨.same _, .same _, .same _, .same _, trivial⟩ ⟨.same _, trivial⟩)
      refine Ok.block ?_
      refine Ok.le (σ' := ⟨[(3, (.sref 11)), (13, (L 6 e_api_Node a0.Kids)), (14, (.v (.int .i64 (a0.Kids.length : Int)))), (15, (.v (.int .i64 0)))], [(11, (.rows true 39 1 (([([] : List Int)] : List (List Int)).map (eL 1 (eI .i64)))))]⟩) (.mk ⟨.same _, .same _, .same _, .same _, trivial⟩ ⟨.same _, trivial⟩) ?_
      refine Ok.loop (fun m5 σ => ∃ (y11_2 : List (List Int)) (x15_1 : Int), σ = ⟨[(3, (.sref 11)), (13, (L 6 e_api_Node a0.Kids)), (14, (.v (.int .i64 (a0.Kids.length : Int)))), (15, (.v (.int .i64 x15_1)))], [(11, (.rows true 39 1 (y11_2.map (eL 1 (eI .i64)))))]⟩ ∧ path_Places.l0 k (path_Places k) a0 m5 y11_2 x15_1 = some r) k ⟨([([] : List Int)] : List (List Int)), 0, rfl, H⟩ ?_
      rintro m5 σ ⟨y11_2, x15_1, rfl, H⟩
      cases m5 with
      | zero => exact absurd H (by simp [path_Places.l0])
      | succ m5 =>
        unfold path_Places.l0 at H
        refine Ok.seq ?_
        refine Ok.region (σ' := ⟨[(3, (.sref 11)), (13, (L 6 e_api_Node a0.Kids)), (14, (.v (.int .i64 (a0.Kids.length : Int)))), (15, (.v (.int .i64 x15_1))), (16, (.v (.bool (decide (x15_1 < (a0.Kids.length : Int))))))], [(11, (.rows true 39 1 (y11_2.map (eL 1 (eI .i64)))))]⟩) ?_ ?_
        · refine OpsOk.cons rfl (.v (VOk.arith (op := .lss) (k := .i64) (a := x15_1) (b := (a0.Kids.length : Int)) rfl rfl rfl rfl) rfl) ?_
          exact .done (.mk ⟨.same _, .same _, .same _, .same _, .same _, trivial⟩ ⟨.same _, trivial⟩)
        refine Ok.seq ?_
        refine Ok.test (b := (decide (x15_1 < (a0.Kids.length : Int)))) rfl (fun hb18 => ?_) (fun hb18 => ?_)
        · replace H := ifT H hb18
          refine Ok.le (σ' := ⟨[(3, (.sref 11)), (13, (L 6 e_api_Node a0.Kids)), (14, (.v (.int .i64 (a0.Kids.length : Int)))), (15, (.v (.int .i64 x15_1)))], [(11, (.rows true 39 1 (y11_2.map (eL 1 (eI .i64)))))]⟩) (.mk ⟨.same _, .same _, .same _, .same _, trivial⟩ ⟨.same _, trivial⟩) ?_
          refine Ok.skip ?_
          refine Ok.seq ?_
          refine Ok.block ?_
          refine Ok.seq ?_
          obtain ⟨c6, H⟩ := assertE H
          refine Ok.region (σ' := ⟨[(3, (.sref 11)), (4, (.v (.int .i64 x15_1))), (5, (.bref 5 0)), (13, (L 6 e_api_Node a0.Kids)), (14, (.v (.int .i64 (a0.Kids.length : Int)))), (15, (.v (.int .i64 x15_1)))], [(5, (.box true [(.v (.int .i64 ((rd a0.Kids x15_1).Kind))), (S ((rd a0.Kids x15_1).Name.Space)), (S ((rd a0.Kids x15_1).Name.Local)), (L 3 e_api_Attr ((rd a0.Kids x15_1).Attrs)), (L 6 e_api_Node ((rd a0.Kids x15_1).Kids)), (S ((rd a0.Kids x15_1).Text))])), (11, (.rows true 39 1 (y11_2.map (eL 1 (eI .i64)))))]⟩) ?_ ?_
          · refine OpsOk.cons rfl (.v (VOk.mv (d := (.v (.int .i64 x15_1))) rfl rfl) rfl) ?_
            refine OpsOk.cons rfl (.v (VOk.indexL (sz := 6) (e := e_api_Node) (xs := a0.Kids) (i := x15_1) rfl Try.underlying25 sz27 rfl rfl c6) rfl) ?_
            refine OpsOk.cons rfl (.v (VOk.to (d' := (.agg (e_api_Node (rd a0.Kids x15_1)))) (.loadFpAgg rfl Try.underlying27 rfl sz27 rfl rfl) rfl) rfl) ?_
            refine OpsOk.cons rfl (OpOk.alloc 5 [none, none, none, some 3, some 6, none] rfl zo27 rfl rfl) ?_
            refine OpsOk.cons rfl (.v (VOk.asg (d := (.v (.int .i64 x15_1))) rfl rfl) rfl) ?_
            refine OpsOk.cut (σ := ⟨[(3, (.sref 11)), (4, (.v (.int .i64 x15_1))), (5, (.bref 5 0)), (13, (L 6 e_api_Node a0.Kids)), (14, (.v (.int .i64 (a0.Kids.length : Int)))), (15, (.v (.int .i64 x15_1))), (17, (.v (.int .i64 x15_1))), (18, (.fp (e_api_Node (rd a0.Kids x15_1)) 0)), (19, (.agg [(.v (.int .i64 ((rd a0.Kids x15_1).Kind))), (S ((rd a0.Kids x15_1).Name.Space)), (S ((rd a0.Kids x15_1).Name.Local)), (L 3 e_api_Attr ((rd a0.Kids x15_1).Attrs)), (L 6 e_api_Node ((rd a0.Kids x15_1).Kids)), (S ((rd a0.Kids x15_1).Text))]))], [(5, (.box true [(.v (.int .i64 0)), (S ([] : Str)), (S ([] : Str)), (L 3 e_api_Attr ([] : List T_api_Attr)), (L 6 e_api_Node ([] : List T_api_Node)), (S ([] : Str))])), (11, (.rows true 39 1 (y11_2.map (eL 1 (eI .i64)))))]⟩) (.mk ⟨.same _, .same _, .same _, .same _, .same _, .same _, .same _, .same _, DLe.of_eq (congrArg D.agg (e_api_Node_c _).symm), trivial⟩ ⟨.same _, .same _, trivial⟩) ?_
            refine OpsOk.cons rfl (OpOk.to (σ2 := St.put ⟨_, (5, (.box true [(.v (.int .i64 ((rd a0.Kids x15_1).Kind))), (S ((rd a0.Kids x15_1).Name.Space)), (S ((rd a0.Kids x15_1).Name.Local)), (L 3 e_api_Attr ((rd a0.Kids x15_1).Attrs)), (L 6 e_api_Node ((rd a0.Kids x15_1).Kids)), (S ((rd a0.Kids x15_1).Text))])) :: _⟩ _ .junk) (.storeB rfl sz27 rfl rfl rfl rfl rfl) rfl) ?_
            exact .done (.mk ⟨.same _, .same _, .same _, .same _, .same _, .same _, trivial⟩ ⟨.same _, .same _, trivial⟩)
          refine Ok.seq ?_
          obtain ⟨t7, h8, H⟩ := bindE H
          refine Ok.region (σ' := ⟨[(3, (.sref 11)), (4, (.v (.int .i64 x15_1))), (13, (L 6 e_api_Node a0.Kids)), (14, (.v (.int .i64 (a0.Kids.length : Int)))), (15, (.v (.int .i64 x15_1))), (21, (L 1 (eL 1 (eI .i64)) t7)), (22, (.v (.int .i64 (t7.length : Int)))), (23, (.v (.int .i64 0)))], [(11, (.rows true 39 1 (y11_2.map (eL 1 (eI .i64)))))]⟩) ?_ ?_
          · refine OpsOk.cons rfl (.v (VOk.to (d' := (.agg (e_api_Node (rd a0.Kids x15_1)))) (.loadBAgg rfl Try.underlying27 rfl sz27 rfl rfl rfl) (congrArg D.agg (e_api_Node_c (rd a0.Kids x15_1)).symm)) rfl) ?_
            refine OpsOk.cons rfl (.g (GOk.call rfl rfl cl21 rfl (@ih _ _ h8) rfl) rfl) ?_
            refine OpsOk.cons rfl (.v (VOk.lenL (e := (eL 1 (eI .i64))) (xs := t7) rfl Try.underlying34 rfl) rfl) ?_
            refine OpsOk.cons rfl (.v (VOk.mv (d := (.v (.int .i64 0))) rfl rfl) rfl) ?_
            exact .done (.mk ⟨.same _, .same _, .same _, .same _, .same _, .same _, .same _, .same _, trivial⟩ ⟨.same _, trivial⟩)
          refine Ok.block ?_
          refine Ok.le (σ' := ⟨[(3, (.sref 11)), (4, (.v (.int .i64 x15_1))), (13, (L 6 e_api_Node a0.Kids)), (14, (.v (.int .i64 (a0.Kids.length : Int)))), (15, (.v (.int .i64 x15_1))), (21, (L 1 (eL 1 (eI .i64)) t7)), (22, (.v (.int .i64 (t7.length : Int)))), (23, (.v (.int .i64 0)))], [(11, (.rows true 39 1 (y11_2.map (eL 1 (eI .i64)))))]⟩) (.mk ⟨.same _, .same _, .same _, .same _, .same _, .same _, .same _, .same _, trivial⟩ ⟨.same _, trivial⟩) ?_
          refine Ok.loop (fun m13 σ => ∃ (y11_10 : List (List Int)) (x23_9 : Int), σ = ⟨[(3, (.sref 11)), (4, (.v (.int .i64 x15_1))), (13, (L 6 e_api_Node a0.Kids)), (14, (.v (.int .i64 (a0.Kids.length : Int)))), (15, (.v (.int .i64 x15_1))), (21, (L 1 (eL 1 (eI .i64)) t7)), (22, (.v (.int .i64 (t7.length : Int)))), (23, (.v (.int .i64 x23_9)))], [(11, (.rows true 39 1 (y11_10.map (eL 1 (eI .i64)))))]⟩ ∧ path_Places.l1 k (path_Places.l0 k (path_Places k) a0 m5) a0 x15_1 t7 m13 y11_10 x23_9 = some r) k ⟨y11_2, 0, rfl, H⟩ ?_
          rintro m13 σ ⟨y11_10, x23_9, rfl, H⟩
          cases m13 with
          | zero => exact absurd H (by simp [path_Places.l1])
          | succ m13 =>
            unfold path_Places.l1 at H
            refine Ok.seq ?_
            refine Ok.region (σ' := ⟨[(3, (.sref 11)), (4, (.v (.int .i64 x15_1))), (13, (L 6 e_api_Node a0.Kids)), (14, (.v (.int .i64 (a0.Kids.length : Int)))), (15, (.v (.int .i64 x15_1))), (21, (L 1 (eL 1 (eI .i64)) t7)), (22, (.v (.int .i64 (t7.length : Int)))), (23, (.v (.int .i64 x23_9))), (24, (.v (.bool (decide (x23_9 < (t7.length : Int))))))], [(11, (.rows true 39 1 (y11_10.map (eL 1 (eI .i64)))))]⟩) ?_ ?_
            · refine OpsOk.cons rfl (.v (VOk.arith (op := .lss) (k := .i64) (a := x23_9) (b := (t7.length : Int)) rfl rfl rfl rfl) rfl) ?_
              exact .done (.mk ⟨.same _, .same _, .same _, .same _, .same _, .same _, .same _, .same _, .same _, trivial⟩ ⟨.same _, trivial⟩)
            refine Ok.seq ?_
            refine Ok.test (b := (decide (x23_9 < (t7.length : Int)))) rfl (fun hb17 => ?_) (fun hb17 => ?_)
            · replace H := ifT H hb17
              refine Ok.le (σ' := ⟨[(3, (.sref 11)), (4, (.v (.int .i64 x15_1))), (13, (L 6 e_api_Node a0.Kids)), (14, (.v (.int .i64 (a0.Kids.length : Int)))), (15, (.v (.int .i64 x15_1))), (21, (L 1 (eL 1 (eI .i64)) t7)), (22, (.v (.int .i64 (t7.length : Int)))), (23, (.v (.int .i64 x23_9)))], [(11, (.rows true 39 1 (y11_10.map (eL 1 (eI .i64)))))]⟩) (.mk ⟨.same _, .same _, .same _, .same _, .same _, .same _, .same _, .same _, trivial⟩ ⟨.same _, trivial⟩) ?_
              refine Ok.skip ?_
              refine Ok.seq ?_
              refine Ok.block ?_
              refine Ok.seq ?_
              obtain ⟨c14, H⟩ := assertE H
              refine Ok.region (σ' := ⟨[(3, (.sref 11)), (4, (.v (.int .i64 x15_1))), (7, (L 1 (eI .i64) (rd t7 x23_9))), (13, (L 6 e_api_Node a0.Kids)), (14, (.v (.int .i64 (a0.Kids.length : Int)))), (15, (.v (.int .i64 x15_1))), (21, (L 1 (eL 1 (eI .i64)) t7)), (22, (.v (.int .i64 (t7.length : Int)))), (23, (.v (.int .i64 x23_9)))], [(11, (.rows true 39 1 (y11_10.map (eL 1 (eI .i64)))))]⟩) ?_ ?_
              · refine OpsOk.cons rfl (.v (VOk.indexL (sz := 1) (e := (eL 1 (eI .i64))) (xs := t7) (i := x23_9) rfl Try.underlying34 sz39 rfl rfl c14) rfl) ?_
                refine OpsOk.cons rfl (.v (VOk.loadFp (d := (L 1 (eI .i64) (rd t7 x23_9))) rfl Try.underlying39 rfl rfl rfl) rfl) ?_
                refine OpsOk.cons rfl (.v (VOk.asg (d := (L 1 (eI .i64) (rd t7 x23_9))) rfl rfl) rfl) ?_
                exact .done (.mk ⟨.same _, .same _, .same _, .same _, .same _, .same _, .same _, .same _, .same _, trivial⟩ ⟨.same _, trivial⟩)
              obtain ⟨c15, H⟩ := assertE H
              obtain ⟨c16, H⟩ := assertE H
              refine Ok.region (σ' := ⟨[(3, (.sref 11)), (4, (.v (.int .i64 x15_1))), (13, (L 6 e_api_Node a0.Kids)), (14, (.v (.int .i64 (a0.Kids.length : Int)))), (15, (.v (.int .i64 x15_1))), (21, (L 1 (eL 1 (eI .i64)) t7)), (22, (.v (.int .i64 (t7.length : Int)))), (23, (.v (.int .i64 x23_9)))], [(11, (.rows true 39 1 ((y11_10 ++ ([(([x15_1] : List Int) ++ (rd t7 x23_9))] : List (List Int))).map (eL 1 (eI .i64)))))]⟩) ?_ ?_
              · refine OpsOk.cons rfl (.v (VOk.mv (d := (.sref 11)) rfl rfl) rfl) ?_
                refine OpsOk.cons rfl (.v (VOk.mv (d := (.v (.int .i64 x15_1))) rfl rfl) rfl) ?_
                refine OpsOk.cons rfl (.g (GOk.to (d' := (.clist 1 (List.map (eI .i64) ([x15_1] : List Int)))) (GOk.litC rfl Try.underlying39 sz3 zs3 rfl rfl rfl rfl) rfl) rfl) ?_
                refine OpsOk.cons rfl (.v (VOk.mv (d := (L 1 (eI .i64) (rd t7 x23_9))) rfl rfl) rfl) ?_
                refine OpsOk.cons rfl (.g (GOk.appendC (e := (eI .i64)) (xs := ([x15_1] : List Int)) (ys := (rd t7 x23_9)) rfl Try.underlying39 elt3 (.same _) rfl c15) rfl) ?_
                refine OpsOk.cons rfl (.g (GOk.to (d' := (L 1 (eL 1 (eI .i64)) ([(([x15_1] : List Int) ++ (rd t7 x23_9))] : List (List Int)))) (GOk.lit rfl Try.underlying34 sz39 zs39 rfl rfl rfl rfl) rfl) rfl) ?_
                refine OpsOk.cons rfl (OpOk.appendL (e := (eL 1 (eI .i64))) (xs := y11_10) (ys := ([(([x15_1] : List Int) ++ (rd t7 x23_9))] : List (List Int))) rfl Try.underlying34 elt39 rfl rfl rfl c16 rfl) ?_
                refine OpsOk.cons rfl (.v (VOk.asg (d := (.sref 11)) rfl rfl) rfl) ?_
                exact .done (.mk ⟨.same _, .same _, .same _, .same _, .same _, .same _, .same _, .same _, trivial⟩ ⟨.same _, trivial⟩)
              refine Ok.region (σ' := ⟨[(3, (.sref 11)), (4, (.v (.int .i64 x15_1))), (13, (L 6 e_api_Node a0.Kids)), (14, (.v (.int .i64 (a0.Kids.length : Int)))), (15, (.v (.int .i64 x15_1))), (21, (L 1 (eL 1 (eI .i64)) t7)), (22, (.v (.int .i64 (t7.length : Int)))), (23, (.v (.int .i64 (IntKind.i64.wrap (x23_9 + 1)))))], [(11, (.rows true 39 1 ((y11_10 ++ ([(([x15_1] : List Int) ++ (rd t7 x23_9))] : List (List Int))).map (eL 1 (eI .i64)))))]⟩) ?_ ?_
              · refine OpsOk.cons rfl (.v (VOk.arith (op := .add) (k := .i64) (a := x23_9) (b := 1) rfl rfl rfl rfl) rfl) ?_
                refine OpsOk.cons rfl (.v (VOk.mv (d := (.v (.int .i64 (IntKind.i64.wrap (x23_9 + 1))))) rfl rfl) rfl) ?_
                exact .done (.mk ⟨.same _, .same _, .same _, .same _, .same _, .same _, .same _, .same _, trivial⟩ ⟨.same _, trivial⟩)
              exact ⟨m13, Nat.lt_succ_self m13, (y11_10 ++ ([(([x15_1] : List Int) ++ (rd t7 x23_9))] : List (List Int))), (IntKind.i64.wrap (x23_9 + 1)), rfl, H⟩
            · replace H := ifF H hb17
              refine Ok.le (σ' := ⟨[(3, (.sref 11)), (13, (L 6 e_api_Node a0.Kids)), (14, (.v (.int .i64 (a0.Kids.length : Int)))), (15, (.v (.int .i64 x15_1)))], [(11, (.rows true 39 1 (y11_10.map (eL 1 (eI .i64)))))]⟩) (.mk ⟨.same _, .same _, .same _, .same _, trivial⟩ ⟨.same _, trivial⟩) ?_
              refine Ok.exit ?_
              refine Ok.region (σ' := ⟨[(3, (.sref 11)), (13, (L 6 e_api_Node a0.Kids)), (14, (.v (.int .i64 (a0.Kids.length : Int)))), (15, (.v (.int .i64 (IntKind.i64.wrap (x15_1 + 1)))))], [(11, (.rows true 39 1 (y11_10.map (eL 1 (eI .i64)))))]⟩) ?_ ?_
              · refine OpsOk.cons rfl (.v (VOk.arith (op := .add) (k := .i64) (a := x15_1) (b := 1) rfl rfl rfl rfl) rfl) ?_
                refine OpsOk.cons rfl (.v (VOk.mv (d := (.v (.int .i64 (IntKind.i64.wrap (x15_1 + 1))))) rfl rfl) rfl) ?_
                exact .done (.mk ⟨.same _, .same _, .same _, .same _, trivial⟩ ⟨.same _, trivial⟩)
              exact ⟨m5, Nat.lt_succ_self m5, y11_10, (IntKind.i64.wrap (x15_1 + 1)), rfl, H⟩
        · replace H := ifF H hb18
          refine Ok.le (σ' := ⟨[(3, (.sref 11))], [(11, (.rows true 39 1 (y11_2.map (eL 1 (eI .i64)))))]⟩) (.mk ⟨.same _, trivial⟩ ⟨.same _, trivial⟩) ?_
          refine Ok.exit ?_
          refine Ok.seq ?_
          refine Ok.region (σ' := ⟨[(2, (.sref 11))], [(11, (.rows true 39 1 (y11_2.map (eL 1 (eI .i64)))))]⟩) ?_ ?_
          · refine OpsOk.cons rfl (.v (VOk.mv (d := (.sref 11)) rfl rfl) rfl) ?_
            refine OpsOk.cons rfl (.v (VOk.asg (d := (.sref 11)) rfl rfl) rfl) ?_
            exact .done (.mk ⟨.same _, trivial⟩ ⟨.same _, trivial⟩)
          refine Ok.frzL 11 (e := (eL 1 (eI .i64))) (xs := y11_2) rfl ?_
          refine Ok.le (σ' := ⟨[(2, (L 1 (eL 1 (eI .i64)) y11_2))], []⟩) (.mk ⟨.same _, trivial⟩ trivial) ?_
          refine Ok.ret ?_
          obtain rfl := Option.some.inj H
          exact ⟨.inl rfl, ⟨_, (.cons (.tmp rfl) .nil), rfl⟩, trivial⟩

/-! watchbill/path.kid: function 37 -/
def path_kid (a0 : T_api_Node) (a1 : Int) : Option Bool := some ((decide (a1 ≥ 0)) && (decide (a1 < (a0.Kids.length : Int))))
theorem path_kid.ok {a0 : T_api_Node} {a1 : Int} {r : Bool} (H : path_kid a0 a1 = some r) : Vx.Fn Try.prog 37 [(.agg (e_api_Node a0)), (.v (.int .i64 a1))] [] (.v (.bool r)) [] := by
  unfold path_kid at H
  refine Vx.Fn.of_okR Try.func37 rfl (Nat.le_of_ble_eq_true rfl) ?_
  refine Ok.seq ?_
  refine Ok.region (σ' := ⟨[(1, (.v (.int .i64 a1))), (2, (.bref 2 0))], [(2, (.box true [(.v (.int .i64 a0.Kind)), (S a0.Name.Space), (S a0.Name.Local), (L 3 e_api_Attr a0.Attrs), (L 6 e_api_Node a0.Kids), (S a0.Text)]))]⟩) ?_ ?_
  · refine OpsOk.cut (σ := ⟨[(0, (.agg [(.v (.int .i64 a0.Kind)), (S a0.Name.Space), (S a0.Name.Local), (L 3 e_api_Attr a0.Attrs), (L 6 e_api_Node a0.Kids), (S a0.Text)])), (1, (.v (.int .i64 a1)))], []⟩) (.mk ⟨DLe.of_eq (congrArg D.agg (e_api_Node_c _).symm), .same _, trivial⟩ trivial) ?_
    refine OpsOk.cons rfl (OpOk.box 2 (cells := [(.v (.int .i64 a0.Kind)), (S a0.Name.Space), (S a0.Name.Local), (L 3 e_api_Attr a0.Attrs), (L 6 e_api_Node a0.Kids), (S a0.Text)]) rfl rfl rfl rfl) ?_
    refine OpsOk.cons rfl (.v (VOk.asg (d := (.v (.bool false))) rfl rfl) rfl) ?_
    exact .done (.mk ⟨.same _, .same _, trivial⟩ ⟨.same _, trivial⟩)
  refine Ok.seq ?_
  refine Ok.region (σ' := ⟨[(4, (.v (.bool ((decide (a1 ≥ 0)) && (decide (a1 < (a0.Kids.length : Int)))))))], []⟩) ?_ ?_
  · refine OpsOk.cons rfl (.v (VOk.mv (d := (.v (.int .i64 a1))) rfl rfl) rfl) ?_
    refine OpsOk.cons rfl (.v (VOk.arith (op := .geq) (k := .i64) (a := a1) (b := 0) rfl rfl rfl rfl) rfl) ?_
    refine OpsOk.cons rfl (.v (VOk.mv (d := (.v (.bool (decide (a1 ≥ 0))))) rfl rfl) rfl) ?_
    refine OpsOk.consI rfl rfl rfl (.one rfl) rfl (fun hw1 => (VOk.g (VOk.mv (d := (.v (.int .i64 a1))) rfl rfl))) ?_
    refine OpsOk.consI rfl rfl rfl (.one rfl) rfl (fun hw1 => (VOk.g (VOk.to (VOk.fieldB rfl Try.underlying27 rfl sz25 rfl rfl) rfl))) ?_
    refine OpsOk.consI rfl rfl rfl (.one rfl) rfl (fun hw1 => (GOk.fr (fr' := [(9, (.bref 2 4))]) ⟨DLe.of_eq (cT hw1).symm, trivial⟩ (VOk.g (VOk.loadB (d := (L 6 e_api_Node a0.Kids)) rfl Try.underlying25 rfl rfl rfl rfl)))) ?_
    refine OpsOk.consI rfl rfl rfl (.one rfl) rfl (fun hw1 => (GOk.fr (fr' := [(10, (L 6 e_api_Node a0.Kids))]) ⟨DLe.of_eq (cT hw1).symm, trivial⟩ (VOk.g (VOk.lenL (e := e_api_Node) (xs := a0.Kids) rfl Try.underlying25 rfl)))) ?_
    refine OpsOk.consI rfl rfl rfl (.one rfl) rfl (fun hw1 => (GOk.fr (fr' := [(8, (.v (.int .i64 a1))), (11, (.v (.int .i64 (a0.Kids.length : Int))))]) ⟨DLe.of_eq (cT hw1).symm, DLe.of_eq (cT hw1).symm, trivial⟩ (VOk.g (VOk.arith (op := .lss) (k := .i64) (a := a1) (b := (a0.Kids.length : Int)) rfl rfl rfl rfl)))) ?_
    refine OpsOk.cons rfl (.v (VOk.to (VOk.pickI (b := (decide (a1 ≥ 0))) (p := (decide (a1 < (a0.Kids.length : Int)))) (q := false) rfl rfl (fun hp2 => (cT (t_beq hp2))) (fun hp2 => rfl)) (pickAnd (decide (a1 ≥ 0)) (decide (a1 < (a0.Kids.length : Int))))) rfl) ?_
    refine OpsOk.cons rfl (.v (VOk.asg (d := (.v (.bool ((decide (a1 ≥ 0)) && (decide (a1 < (a0.Kids.length : Int))))))) rfl rfl) rfl) ?_
    exact .done (.mk ⟨.same _, trivial⟩ trivial)
  refine Ok.le (σ' := ⟨[(4, (.v (.bool ((decide (a1 ≥ 0)) && (decide (a1 < (a0.Kids.length : Int)))))))], []⟩) (.mk ⟨.same _, trivial⟩ trivial) ?_
  refine Ok.ret ?_
  obtain rfl := Option.some.inj H
  exact ⟨.inl rfl, ⟨_, (.cons (.tmp rfl) .nil), rfl⟩, trivial⟩

/-! slices.Clone[[]watchbill/api.Attr,watchbill/api.Attr]: function 44 -/
def slices_Clone_44 (a0 : List T_api_Attr) : Option (List T_api_Attr) := (if (([] : List T_api_Attr).length + a0.length) * 48 ≤ 140737488355328 then some (([] : List T_api_Attr) ++ a0) else none)
theorem slices_Clone_44.ok {a0 : List T_api_Attr} {r : (List T_api_Attr)} (H : slices_Clone_44 a0 = some r) : Vx.Fn Try.prog 44 [(L 3 e_api_Attr a0)] [] (L 3 e_api_Attr r) [] := by
  unfold slices_Clone_44 at H
  refine Vx.Fn.of_okR Try.func44 rfl (Nat.le_of_ble_eq_true rfl) ?_
  refine Ok.seq ?_
  refine Ok.region (σ' := ⟨[(0, (L 3 e_api_Attr a0))], []⟩) ?_ ?_
  · refine OpsOk.cons rfl (.v (VOk.asg (d := (.v (.slice none 0 0))) rfl rfl) rfl) ?_
    exact .done (.mk ⟨.same _, trivial⟩ trivial)
  refine Ok.seq ?_
  refine Ok.seq ?_
  refine Ok.regionB (X := fun b => b = true → a0 = []) (σ' := fun nb1 => ⟨[(0, (L 3 e_api_Attr a0)), (4, (.v (.bool nb1)))], []⟩) ?_ (fun nb1 hnb1 => ?_)
  · refine OpsB.cons rfl (.v (VOk.mv (d := (L 3 e_api_Attr a0)) rfl rfl) rfl) ?_
    exact .last rfl (BOk.eqNil (E := e_api_Attr) (xs := a0) rfl Try.underlying24 rfl) rfl (fun nb1 => (.mk ⟨.same _, .same _, trivial⟩ trivial))
  refine Ok.test (b := nb1) rfl (fun hb3 => ?_) (fun hb3 => ?_)
  · replace H : some ([] : List T_api_Attr) = some r := nilH (hnb1 hb3) H (fun h => by (try rw [h]); rfl)
    refine Ok.seq ?_
    refine Ok.region (σ' := ⟨[(2, (.v (.slice none 0 0)))], []⟩) ?_ ?_
    · refine OpsOk.cons rfl (.v (VOk.asg (d := (.v (.slice none 0 0))) rfl rfl) rfl) ?_
      exact .done (.mk ⟨.same _, trivial⟩ trivial)
    refine Ok.le (σ' := ⟨[(2, (L 3 e_api_Attr ([] : List T_api_Attr)))], []⟩) (.mk ⟨.nil _, trivial⟩ trivial) ?_
    refine Ok.ret ?_
    obtain rfl := Option.some.inj H
    exact ⟨.inl rfl, ⟨_, (.cons (.tmp rfl) .nil), rfl⟩, trivial⟩
  · refine Ok.le (σ' := ⟨[(0, (L 3 e_api_Attr a0))], []⟩) (.mk ⟨.same _, trivial⟩ trivial) ?_
    refine Ok.skip ?_
    refine Ok.seq ?_
    obtain ⟨c2, H⟩ := assertE H
    refine Ok.region (σ' := ⟨[(2, (L 3 e_api_Attr (([] : List T_api_Attr) ++ a0)))], []⟩) ?_ ?_
    · refine OpsOk.cons rfl (.g (GOk.to (d' := (.clist 3 (List.map e_api_Attr ([] : List T_api_Attr)))) (GOk.litC rfl Try.underlying24 sz56 zs56 rfl rfl rfl rfl) rfl) rfl) ?_
      refine OpsOk.cons rfl (.v (VOk.mv (d := (L 3 e_api_Attr a0)) rfl rfl) rfl) ?_
      refine OpsOk.cons rfl (.g (GOk.appendC (e := e_api_Attr) (xs := ([] : List T_api_Attr)) (ys := a0) rfl Try.underlying24 elt56 (.same _) rfl c2) rfl) ?_
      refine OpsOk.cons rfl (.v (VOk.asg (d := (L 3 e_api_Attr (([] : List T_api_Attr) ++ a0))) rfl rfl) rfl) ?_
      exact .done (.mk ⟨.same _, trivial⟩ trivial)
    refine Ok.le (σ' := ⟨[(2, (L 3 e_api_Attr (([] : List T_api_Attr) ++ a0)))], []⟩) (.mk ⟨.same _, trivial⟩ trivial) ?_
    refine Ok.ret ?_
    obtain rfl := Option.some.inj H
    exact ⟨.inl rfl, ⟨_, (.cons (.tmp rfl) .nil), rfl⟩, trivial⟩

/-! slices.Clone[[]watchbill/api.Node,watchbill/api.Node]: function 45 -/
def slices_Clone_45_o (a0 : List T_api_Node) : Option (List T_api_Node) := (if (([] : List T_api_Node).length + a0.length) * 104 ≤ 140737488355328 then some (([] : List T_api_Node) ++ a0) else none)
theorem slices_Clone_45_o.ok {a0 : List T_api_Node} {r : (List T_api_Node)} (H : slices_Clone_45_o a0 = some r) : Vx.Fn Try.prog 45 [(L 6 e_api_Node a0)] [] (.sref 0) [(0, .rows true 27 6 (List.map e_api_Node r))] := by
  unfold slices_Clone_45_o at H
  refine Vx.Fn.of_okO (t := 2) Try.func45 rfl (Nat.le_of_ble_eq_true rfl) rfl ?_
  refine Ok.seq ?_
  refine Ok.region (σ' := ⟨[(0, (L 6 e_api_Node a0))], []⟩) ?_ ?_
  · refine OpsOk.cons rfl (.nilT 2 27 6 (.inl rfl) rfl rfl) ?_
    exact .done (.mk ⟨.same _, trivial⟩ trivial)
  refine Ok.seq ?_
  refine Ok.seq ?_
  refine Ok.regionB (X := fun b => b = true → a0 = []) (σ' := fun nb1 => ⟨[(0, (L 6 e_api_Node a0)), (4, (.v (.bool nb1)))], []⟩) ?_ (fun nb1 hnb1 => ?_)
  · refine OpsB.cons rfl (.v (VOk.mv (d := (L 6 e_api_Node a0)) rfl rfl) rfl) ?_
    exact .last rfl (BOk.eqNil (E := e_api_Node) (xs := a0) rfl Try.underlying25 rfl) rfl (fun nb1 => (.mk ⟨.same _, .same _, trivial⟩ trivial))
  refine Ok.test (b := nb1) rfl (fun hb3 => ?_) (fun hb3 => ?_)
  · replace H : some ([] : List T_api_Node) = some r := nilH (hnb1 hb3) H (fun h => by (try rw [h]); rfl)
    refine Ok.seq ?_
    refine Ok.region (σ' := ⟨[(2, (.sref 2))], [(2, (.rows true 27 6 (([] : List T_api_Node).map e_api_Node)))]⟩) ?_ ?_
    · refine OpsOk.cons rfl (.nilT 2 27 6 (.inl rfl) rfl rfl) ?_
      exact .done (.mk ⟨.same _, trivial⟩ ⟨.same _, trivial⟩)
    refine Ok.le (σ' := ⟨[(2, (.sref 2))], [(2, (.rows true 27 6 (([] : List T_api_Node).map e_api_Node)))]⟩) (.mk ⟨.same _, trivial⟩ ⟨.same _, trivial⟩) ?_
    refine Ok.ret ?_
    obtain rfl := Option.some.inj H
    exact ⟨.inl rfl, 2, rfl, rfl⟩
  · refine Ok.le (σ' := ⟨[(0, (L 6 e_api_Node a0))], []⟩) (.mk ⟨.same _, trivial⟩ trivial) ?_
    refine Ok.skip ?_
    refine Ok.seq ?_
    obtain ⟨c2, H⟩ := assertE H
    refine Ok.region (σ' := ⟨[(2, (.sref 5))], [(5, (.rows true 27 6 ((([] : List T_api_Node) ++ a0).map e_api_Node)))]⟩) ?_ ?_
    · refine OpsOk.cons rfl (OpOk.litT 5 rfl rfl Try.underlying25 sz27 zs27 rfl (rows := ([] : List T_api_Node).map e_api_Node) rfl rfl rfl rfl) ?_
      refine OpsOk.cons rfl (.v (VOk.mv (d := (L 6 e_api_Node a0)) rfl rfl) rfl) ?_
      refine OpsOk.cons rfl (OpOk.appendL (e := e_api_Node) (xs := ([] : List T_api_Node)) (ys := a0) rfl Try.underlying25 elt27 rfl rfl rfl c2 rfl) ?_
      refine OpsOk.cons rfl (.v (VOk.asg (d := (.sref 5)) rfl rfl) rfl) ?_
      exact .done (.mk ⟨.same _, trivial⟩ ⟨.same _, trivial⟩)
    refine Ok.le (σ' := ⟨[(2, (.sref 5))], [(5, (.rows true 27 6 ((([] : List T_api_Node) ++ a0).map e_api_Node)))]⟩) (.mk ⟨.same _, trivial⟩ ⟨.same _, trivial⟩) ?_
    refine Ok.ret ?_
    obtain rfl := Option.some.inj H
    exact ⟨.inl rfl, 5, rfl, rfl⟩

/-! watchbill/tree.Copy: function 38 -/
def tree_Copy.l0 (k : Nat) (self : T_api_Node → Option T_api_Node) (t3 : List T_api_Node) : Nat → Int → Str → Str → List T_api_Attr → Str → Int → Str → Str → List T_api_Attr → List T_api_Node → Str → List T_api_Node → Int → Option T_api_Node
  | 0, _, _, _, _, _, _, _, _, _, _, _, _, _ => none
  | m31 + 1, y1_0_6, y1_1_7, y1_2_8, y1_3_9, y1_5_10, y2_0_11, y2_1_12, y2_2_13, y2_3_14, y2_4_15, y2_5_16, y10_17, x16_5 => (if (decide (x16_5 < (t3.length : Int))) = true then (if (0 : Int) ≤ x16_5 ∧ x16_5 < (y10_17.length : Int) then ((self (rd y10_17 x16_5)).bind fun (t33 : T_api_Node) => (if (0 : Int) ≤ x16_5 ∧ x16_5 < (y10_17.length : Int) then tree_Copy.l0 k self t3 m31 y1_0_6 y1_1_7 y1_2_8 y1_3_9 y1_5_10 y2_0_11 y2_1_12 y2_2_13 y2_3_14 y2_4_15 y2_5_16 (y10_17.set (Int.toNat x16_5) t33) (IntKind.i64.wrap (x16_5 + 1)) else none)) else none) else some (T_api_Node.mk y1_0_6 (T_api_Name.mk y1_1_7 y1_2_8) y1_3_9 y10_17 y1_5_10))
def tree_Copy : Nat → T_api_Node → Option T_api_Node
  | 0, _ => none
  | k + 1, a0 => ((slices_Clone_44 a0.Attrs).bind fun (t1 : (List T_api_Attr)) => ((slices_Clone_45_o a0.Kids).bind fun (t3 : List T_api_Node) => tree_Copy.l0 k (tree_Copy k) t3 k a0.Kind a0.Name.Space a0.Name.Local t1 a0.Text 0 ([] : Str) ([] : Str) ([] : List T_api_Attr) ([] : List T_api_Node) ([] : Str) t3 0))
theorem tree_Copy.ok {k : Nat} {a0 : T_api_Node} {r : T_api_Node} (H : tree_Copy k a0 = some r) : Vx.Fn Try.prog 38 [(.agg (e_api_Node a0))] [] (.agg (e_api_Node r)) [] := by
  induction k generalizing a0 r with
  | zero => exact absurd H (by simp [tree_Copy])
  | succ k ih =>
    unfold tree_Copy at H
    refine Vx.Fn.of_okR Try.func38 rfl (Nat.le_of_ble_eq_true rfl) ?_
    refine Ok.seq ?_
    refine Ok.region (σ' := ⟨[(1, (.bref 1 0)), (2, (.bref 2 0))], [(1, (.box true [(.v (.int .i64 a0.Kind)), (S a0.Name.Space), (S a0.Name.Local), (L 3 e_api_Attr a0.Attrs), (L 6 e_api_Node a0.Kids), (S a0.Text)])), (2, (.box true [(.v (.int .i64 0)), (S ([] : Str)), (S ([] : Str)), (L 3 e_api_Attr ([] : List T_api_Attr)), (L 6 e_api_Node ([] : List T_api_Node)), (S ([] : Str))]))]⟩) ?_ ?_
    · refine OpsOk.cut (σ := ⟨[(0, (.agg [(.v (.int .i64 a0.Kind)), (S a0.Name.Space), (S a0.Name.Local), (L 3 e_api_Attr a0.Attrs), (L 6 e_api_Node a0.Kids), (S a0.Text)]))], []⟩) (.mk ⟨DLe.of_eq (congrArg D.agg (e_api_Node_c _).symm), trivial⟩ trivial) ?_
      refine OpsOk.cons rfl (OpOk.box 1 (cells := [(.v (.int .i64 a0.Kind)), (S a0.Name.Space), (S a0.Name.Local), (L 3 e_api_Attr a0.Attrs), (L 6 e_api_Node a0.Kids), (S a0.Text)]) rfl rfl rfl rfl) ?_
      refine OpsOk.cons rfl (OpOk.alloc 2 [none, none, none, some 3, some 6, none] rfl zo27 rfl rfl) ?_
      exact .done (.mk ⟨.same _, .same _, trivial⟩ ⟨.same _, .same _, trivial⟩)
    refine Ok.seq ?_
    obtain ⟨t1, h2, H⟩ := bindE H
    obtain ⟨t3, h4, H⟩ := bindE H
    refine Ok.le (σ' := ⟨[(1, (.bref 1 0)), (2, (.bref 2 0))], [(1, (.box true [(.v (.int .i64 a0.Kind)), (S a0.Name.Space), (S a0.Name.Local), (L 3 e_api_Attr a0.Attrs), (L 6 e_api_Node a0.Kids), (S a0.Text)])), (2, (.box true [(.v (.int .i64 0)), (S ([] : Str)), (S ([] : Str)), (L 3 e_api_Attr ([] : List T_api_Attr)), (L 6 e_api_Node ([] : List T_api_Node)), (S ([] : Str))]))]⟩) (.mk ⟨.same _, .same _, trivial⟩ ⟨.same _, .same _, trivial⟩) ?_
    refine Ok.drawE2 (σ' := ⟨[(1, (.bref 1 0)), (2, (.bref 2 0))], [(1, (.box true [(.v (.int .i64 a0.Kind)), (S a0.Name.Space), (S a0.Name.Local), (L 3 e_api_Attr t1), (.sref 10), (S a0.Text)])), (2, (.box true [(.v (.int .i64 0)), (S ([] : Str)), (S ([] : Str)), (L 3 e_api_Attr ([] : List T_api_Attr)), (L 6 e_api_Node ([] : List T_api_Node)), (S ([] : Str))])), (10, (.rows true 27 6 (t3.map e_api_Node)))]⟩) [⟨true, [(1, (.bref 1 0))], [(1, (.box true [(.v (.int .i64 a0.Kind)), (S a0.Name.Space), (S a0.Name.Local), (L 3 e_api_Attr a0.Attrs), (L 6 e_api_Node a0.Kids), (S a0.Text)]))], (.bref 1 3), none, false⟩, ⟨true, [(5, (.bref 1 3))], [(1, (.box true [(.v (.int .i64 a0.Kind)), (S a0.Name.Space), (S a0.Name.Local), (L 3 e_api_Attr a0.Attrs), (L 6 e_api_Node a0.Kids), (S a0.Text)]))], (L 3 e_api_Attr a0.Attrs), none, false⟩, ⟨true, [(6, (L 3 e_api_Attr a0.Attrs))], [], (L 3 e_api_Attr t1), none, false⟩, ⟨true, [(1, (.bref 1 0))], [(1, (.box true [(.v (.int .i64 a0.Kind)), (S a0.Name.Space), (S a0.Name.Local), (L 3 e_api_Attr a0.Attrs), (L 6 e_api_Node a0.Kids), (S a0.Text)]))], (.bref 1 4), none, false⟩, ⟨true, [(8, (.bref 1 4))], [(1, (.box true [(.v (.int .i64 a0.Kind)), (S a0.Name.Space), (S a0.Name.Local), (L 3 e_api_Attr a0.Attrs), (L 6 e_api_Node a0.Kids), (S a0.Text)]))], (L 6 e_api_Node a0.Kids), none, false⟩, ⟨true, [(9, (L 6 e_api_Node a0.Kids))], [], (.sref 10), (some (10, (.rows true 27 6 (t3.map e_api_Node)))), true⟩, ⟨true, [(1, (.bref 1 0))], [(1, (.box true [(.v (.int .i64 a0.Kind)), (S a0.Name.Space), (S a0.Name.Local), (L 3 e_api_Attr a0.Attrs), (L 6 e_api_Node a0.Kids), (S a0.Text)]))], (.bref 1 3), none, false⟩, ⟨true, [(11, (.bref 1 3)), (7, (L 3 e_api_Attr t1))], [(1, (.box true [(.v (.int .i64 a0.Kind)), (S a0.Name.Space), (S a0.Name.Local), (L 3 e_api_Attr a0.Attrs), (L 6 e_api_Node a0.Kids), (S a0.Text)]))], .junk, (some (1, (.box true [(.v (.int .i64 a0.Kind)), (S a0.Name.Space), (S a0.Name.Local), (L 3 e_api_Attr t1), (L 6 e_api_Node a0.Kids), (S a0.Text)]))), false⟩, ⟨true, [(1, (.bref 1 0))], [(1, (.box true [(.v (.int .i64 a0.Kind)), (S a0.Name.Space), (S a0.Name.Local), (L 3 e_api_Attr t1), (L 6 e_api_Node a0.Kids), (S a0.Text)]))], (.bref 1 4), none, false⟩, ⟨true, [(12, (.bref 1 4)), (10, (.sref 10))], [(1, (.box true [(.v (.int .i64 a0.Kind)), (S a0.Name.Space), (S a0.Name.Local), (L 3 e_api_Attr t1), (L 6 e_api_Node a0.Kids), (S a0.Text)])), (10, (.rows true 27 6 (t3.map e_api_Node)))], .junk, (some (1, (.box true [(.v (.int .i64 a0.Kind)), (S a0.Name.Space), (S a0.Name.Local), (L 3 e_api_Attr t1), (.sref 10), (S a0.Text)]))), false⟩] [[], [0], [1], [], [3], [4], [], [0, 1, 2, 3, 4, 6], [7], [0, 1, 3, 4, 5, 6, 7, 8]] mixed (by kernel_rfl) ?_ ?_
    · refine TxtE2.cons ⟨.same _, trivial⟩ ⟨rfl, trivial⟩ (It2.val rfl rfl (fun T hT => (VOk.g (VOk.to (VOk.fieldB rfl Try.underlying27 rfl sz24 rfl hT.1) rfl)))) ?_
      refine TxtE2.cons ⟨.same _, trivial⟩ ⟨rfl, trivial⟩ (It2.val rfl rfl (fun T hT => (VOk.g (VOk.loadB (d := (L 3 e_api_Attr a0.Attrs)) rfl Try.underlying24 rfl rfl hT.1 rfl)))) ?_
      refine TxtE2.cons ⟨.same _, trivial⟩ trivial (It2.val rfl rfl (fun T hT => (GOk.call rfl rfl cl44 rfl (slices_Clone_44.ok h2) rfl))) ?_
      refine TxtE2.cons ⟨.same _, trivial⟩ ⟨rfl, trivial⟩ (It2.val rfl rfl (fun T hT => (VOk.g (VOk.to (VOk.fieldB rfl Try.underlying27 rfl sz25 rfl hT.1) rfl)))) ?_
      refine TxtE2.cons ⟨.same _, trivial⟩ ⟨rfl, trivial⟩ (It2.val rfl rfl (fun T hT => (VOk.g (VOk.loadB (d := (L 6 e_api_Node a0.Kids)) rfl Try.underlying25 rfl rfl hT.1 rfl)))) ?_
      refine TxtE2.cons ⟨.same _, trivial⟩ trivial (It2.callO 10 (rows := t3.map e_api_Node) rfl rfl rfl cl45 rfl (slices_Clone_45_o.ok h4) rfl) ?_
      refine TxtE2.cons ⟨.same _, trivial⟩ ⟨rfl, trivial⟩ (It2.val rfl rfl (fun T hT => (VOk.g (VOk.to (VOk.fieldB rfl Try.underlying27 rfl sz24 rfl hT.1) rfl)))) ?_
      refine TxtE2.cons ⟨.same _, .same _, trivial⟩ ⟨rfl, trivial⟩ (It2.store rfl rfl sz24 rfl rfl rfl rfl rfl rfl rfl) ?_
      refine TxtE2.cons ⟨.same _, trivial⟩ ⟨rfl, trivial⟩ (It2.val rfl rfl (fun T hT => (VOk.g (VOk.to (VOk.fieldB rfl Try.underlying27 rfl sz25 rfl hT.1) rfl)))) ?_
      refine TxtE2.cons ⟨.same _, .same _, trivial⟩ ⟨rfl, rfl, trivial⟩ (It2.store rfl rfl sz25 rfl rfl rfl rfl rfl rfl rfl) ?_
      exact .done (.mk ⟨.same _, .same _, trivial⟩ ⟨.same _, .same _, .same _, trivial⟩)
    refine Ok.seq ?_
    refine Ok.seq ?_
    refine Ok.region (σ' := ⟨[(1, (.bref 1 0)), (2, (.bref 2 0)), (14, (.sref 10)), (15, (.v (.int .i64 (t3.length : Int)))), (16, (.v (.int .i64 0)))], [(1, (.box true [(.v (.int .i64 a0.Kind)), (S a0.Name.Space), (S a0.Name.Local), (L 3 e_api_Attr t1), (.sref 10), (S a0.Text)])), (2, (.box true [(.v (.int .i64 0)), (S ([] : Str)), (S ([] : Str)), (L 3 e_api_Attr ([] : List T_api_Attr)), (L 6 e_api_Node ([] : List T_api_Node)), (S ([] : Str))])), (10, (.rows true 27 6 (t3.map e_api_Node)))]⟩) ?_ ?_
    · refine OpsOk.cons rfl (.v (VOk.to (VOk.fieldB rfl Try.underlying27 rfl sz25 rfl rfl) rfl) rfl) ?_
      refine OpsOk.cons rfl (.v (VOk.loadB (d := (.sref 10)) rfl Try.underlying25 rfl rfl rfl rfl) rfl) ?_
      refine OpsOk.cons rfl (.v (VOk.lenTL (e := e_api_Node) (xs := t3) rfl Try.underlying25 rfl rfl) rfl) ?_
      refine OpsOk.cons rfl (.v (VOk.mv (d := (.v (.int .i64 0))) rfl rfl) rfl) ?_
      exact .done (.mk ⟨.same _, .same _, .same _, .same _, .same _, trivial⟩ ⟨.same _, .same _, .same _, trivial⟩)
    refine Ok.block ?_
    refine Ok.le (σ' := ⟨[(1, (.bref 1 0)), (2, (.bref 2 0)), (14, (.sref 10)), (15, (.v (.int .i64 (t3.length : Int)))), (16, (.v (.int .i64 0)))], [(1, (.box true [(.v (.int .i64 a0.Kind)), (S a0.Name.Space), (S a0.Name.Local), (L 3 e_api_Attr t1), (.sref 10), (S a0.Text)])), (2, (.box true [(.v (.int .i64 0)), (S ([] : Str)), (S ([] : Str)), (L 3 e_api_Attr ([] : List T_api_Attr)), (L 6 e_api_Node ([] : List T_api_Node)), (S ([] : Str))])), (10, (.rows true 27 6 (t3.map e_api_Node)))]⟩) (.mk ⟨.same _, .same _, .same _, .same _, .same _, trivial⟩ ⟨.same _, .same _, .same _, trivial⟩) ?_
    refine Ok.loop (fun m31 σ => ∃ (y1_0_6 : Int) (y1_1_7 : Str) (y1_2_8 : Str) (y1_3_9 : List T_api_Attr) (y1_5_10 : Str) (y2_0_11 : Int) (y2_1_12 : Str) (y2_2_13 : Str) (y2_3_14 : List T_api_Attr) (y2_4_15 : List T_api_Node) (y2_5_16 : Str) (y10_17 : List T_api_Node) (x16_5 : Int), σ = ⟨[(1, (.bref 1 0)), (2, (.bref 2 0)), (14, (.sref 10)), (15, (.v (.int .i64 (t3.length : Int)))), (16, (.v (.int .i64 x16_5)))], [(1, (.box true [(.v (.int .i64 y1_0_6)), (S y1_1_7), (S y1_2_8), (L 3 e_api_Attr y1_3_9), (.sref 10), (S y1_5_10)])), (2, (.box true [(.v (.int .i64 y2_0_11)), (S y2_1_12), (S y2_2_13), (L 3 e_api_Attr y2_3_14), (L 6 e_api_Node y2_4_15), (S y2_5_16)])), (10, (.rows true 27 6 (y10_17.map e_api_Node)))]⟩ ∧ tree_Copy.l0 k (tree_Copy k) t3 m31 y1_0_6 y1_1_7 y1_2_8 y1_3_9 y1_5_10 y2_0_11 y2_1_12 y2_2_13 y2_3_14 y2_4_15 y2_5_16 y10_17 x16_5 = some r) k ⟨a0.Kind, a0.Name.Space, a0.Name.Local, t1, a0.Text, 0, ([] : Str), ([] : Str), ([] : List T_api_Attr), ([] : List T_api_Node), ([] : Str), t3, 0, rfl, H⟩ ?_
    rintro m31 σ ⟨y1_0_6, y1_1_7, y1_2_8, y1_3_9, y1_5_10, y2_0_11, y2_1_12, y2_2_13, y2_3_14, y2_4_15, y2_5_16, y10_17, x16_5, rfl, H⟩
    cases m31 with
    | zero => exact absurd H (by simp [tree_Copy.l0])
    | succ m31 =>
      unfold tree_Copy.l0 at H
      refine Ok.seq ?_
      refine Ok.region (σ' := ⟨[(1, (.bref 1 0)), (2, (.bref 2 0)), (14, (.sref 10)), (15, (.v (.int .i64 (t3.length : Int)))), (16, (.v (.int .i64 x16_5))), (17, (.v (.bool (decide (x16_5 < (t3.length : Int))))))], [(1, (.box true [(.v (.int .i64 y1_0_6)), (S y1_1_7), (S y1_2_8), (L 3 e_api_Attr y1_3_9), (.sref 10), (S y1_5_10)])), (2, (.box true [(.v (.int .i64 y2_0_11)), (S y2_1_12), (S y2_2_13), (L 3 e_api_Attr y2_3_14), (L 6 e_api_Node y2_4_15), (S y2_5_16)])), (10, (.rows true 27 6 (y10_17.map e_api_Node)))]⟩) ?_ ?_
      · refine OpsOk.cons rfl (.v (VOk.arith (op := .lss) (k := .i64) (a := x16_5) (b := (t3.length : Int)) rfl rfl rfl rfl) rfl) ?_
        exact .done (.mk ⟨.same _, .same _, .same _, .same _, .same _, .same _, trivial⟩ ⟨.same _, .same _, .same _, trivial⟩)
      refine Ok.seq ?_
      refine Ok.test (b := (decide (x16_5 < (t3.length : Int)))) rfl (fun hb36 => ?_) (fun hb36 => ?_)
      · replace H := ifT H hb36
        refine Ok.le (σ' := ⟨[(1, (.bref 1 0)), (2, (.bref 2 0)), (14, (.sref 10)), (15, (.v (.int .i64 (t3.length : Int)))), (16, (.v (.int .i64 x16_5)))], [(1, (.box true [(.v (.int .i64 y1_0_6)), (S y1_1_7), (S y1_2_8), (L 3 e_api_Attr y1_3_9), (.sref 10), (S y1_5_10)])), (2, (.box true [(.v (.int .i64 y2_0_11)), (S y2_1_12), (S y2_2_13), (L 3 e_api_Attr y2_3_14), (L 6 e_api_Node y2_4_15), (S y2_5_16)])), (10, (.rows true 27 6 (y10_17.map e_api_Node)))]⟩) (.mk ⟨.same _, .same _, .same _, .same _, .same _, trivial⟩ ⟨.same _, .same _, .same _, trivial⟩) ?_
        refine Ok.skip ?_
        refine Ok.seq ?_
        refine Ok.block ?_
        refine Ok.seq ?_
        obtain ⟨c32, H⟩ := assertE H
        refine Ok.region (σ' := ⟨[(1, (.bref 1 0)), (2, (.bref 2 0)), (3, (.v (.int .i64 x16_5))), (4, (.bref 4 0)), (14, (.sref 10)), (15, (.v (.int .i64 (t3.length : Int)))), (16, (.v (.int .i64 x16_5)))], [(1, (.box true [(.v (.int .i64 y1_0_6)), (S y1_1_7), (S y1_2_8), (L 3 e_api_Attr y1_3_9), (.sref 10), (S y1_5_10)])), (2, (.box true [(.v (.int .i64 y2_0_11)), (S y2_1_12), (S y2_2_13), (L 3 e_api_Attr y2_3_14), (L 6 e_api_Node y2_4_15), (S y2_5_16)])), (4, (.box true [(.v (.int .i64 ((rd y10_17 x16_5).Kind))), (S ((rd y10_17 x16_5).Name.Space)), (S ((rd y10_17 x16_5).Name.Local)), (L 3 e_api_Attr ((rd y10_17 x16_5).Attrs)), (L 6 e_api_Node ((rd y10_17 x16_5).Kids)), (S ((rd y10_17 x16_5).Text))])), (10, (.rows true 27 6 (y10_17.map e_api_Node)))]⟩) ?_ ?_
        · refine OpsOk.cons rfl (.v (VOk.mv (d := (.v (.int .i64 x16_5))) rfl rfl) rfl) ?_
          refine OpsOk.cons rfl (.v (VOk.indexTL (e := e_api_Node) (xs := y10_17) (i := x16_5) rfl Try.underlying25 sz27 rfl rfl rfl c32) rfl) ?_
          refine OpsOk.cons rfl (.v (VOk.to (d' := (.agg (e_api_Node (rd y10_17 x16_5)))) (.loadEAgg rfl Try.underlying27 rfl sz27 rfl rfl (row_rd c32) rfl) rfl) rfl) ?_
          refine OpsOk.cons rfl (OpOk.alloc 4 [none, none, none, some 3, some 6, none] rfl zo27 rfl rfl) ?_
          refine OpsOk.cons rfl (.v (VOk.asg (d := (.v (.int .i64 x16_5))) rfl rfl) rfl) ?_
          refine OpsOk.cut (σ := ⟨[(1, (.bref 1 0)), (2, (.bref 2 0)), (3, (.v (.int .i64 x16_5))), (4, (.bref 4 0)), (14, (.sref 10)), (15, (.v (.int .i64 (t3.length : Int)))), (16, (.v (.int .i64 x16_5))), (18, (.v (.int .i64 x16_5))), (19, (.eref 10 (Int.toNat x16_5) 0)), (20, (.agg [(.v (.int .i64 ((rd y10_17 x16_5).Kind))), (S ((rd y10_17 x16_5).Name.Space)), (S ((rd y10_17 x16_5).Name.Local)), (L 3 e_api_Attr ((rd y10_17 x16_5).Attrs)), (L 6 e_api_Node ((rd y10_17 x16_5).Kids)), (S ((rd y10_17 x16_5).Text))]))], [(1, (.box true [(.v (.int .i64 y1_0_6)), (S y1_1_7), (S y1_2_8), (L 3 e_api_Attr y1_3_9), (.sref 10), (S y1_5_10)])), (2, (.box true [(.v (.int .i64 y2_0_11)), (S y2_1_12), (S y2_2_13), (L 3 e_api_Attr y2_3_14), (L 6 e_api_Node y2_4_15), (S y2_5_16)])), (4, (.box true [(.v (.int .i64 0)), (S ([] : Str)), (S ([] : Str)), (L 3 e_api_Attr ([] : List T_api_Attr)), (L 6 e_api_Node ([] : List T_api_Node)), (S ([] : Str))])), (10, (.rows true 27 6 (y10_17.map e_api_Node)))]⟩) (.mk ⟨.same _, .same _, .same _, .same _, .same _, .same _, .same _, .same _, .same _, DLe.of_eq (congrArg D.agg (e_api_Node_c _).symm), trivial⟩ ⟨.same _, .same _, .same _, .same _, trivial⟩) ?_
          refine OpsOk.cons rfl (OpOk.to (σ2 := St.put ⟨_, (4, (.box true [(.v (.int .i64 ((rd y10_17 x16_5).Kind))), (S ((rd y10_17 x16_5).Name.Space)), (S ((rd y10_17 x16_5).Name.Local)), (L 3 e_api_Attr ((rd y10_17 x16_5).Attrs)), (L 6 e_api_Node ((rd y10_17 x16_5).Kids)), (S ((rd y10_17 x16_5).Text))])) :: _⟩ _ .junk) (.storeB rfl sz27 rfl rfl rfl rfl rfl) rfl) ?_
          exact .done (.mk ⟨.same _, .same _, .same _, .same _, .same _, .same _, .same _, trivial⟩ ⟨.same _, .same _, .same _, .same _, trivial⟩)
        obtain ⟨t33, h34, H⟩ := bindE H
        obtain ⟨c35, H⟩ := assertE H
        refine Ok.le (σ' := ⟨[(1, (.bref 1 0)), (2, (.bref 2 0)), (3, (.v (.int .i64 x16_5))), (4, (.bref 4 0)), (14, (.sref 10)), (15, (.v (.int .i64 (t3.length : Int)))), (16, (.v (.int .i64 x16_5)))], [(1, (.box true [(.v (.int .i64 y1_0_6)), (S y1_1_7), (S y1_2_8), (L 3 e_api_Attr y1_3_9), (.sref 10), (S y1_5_10)])), (2, (.box true [(.v (.int .i64 y2_0_11)), (S y2_1_12), (S y2_2_13), (L 3 e_api_Attr y2_3_14), (L 6 e_api_Node y2_4_15), (S y2_5_16)])), (4, (.box true [(.v (.int .i64 ((rd y10_17 x16_5).Kind))), (S ((rd y10_17 x16_5).Name.Space)), (S ((rd y10_17 x16_5).Name.Local)), (L 3 e_api_Attr ((rd y10_17 x16_5).Attrs)), (L 6 e_api_Node ((rd y10_17 x16_5).Kids)), (S ((rd y10_17 x16_5).Text))])), (10, (.rows true 27 6 (y10_17.map e_api_Node)))]⟩) (.mk ⟨.same _, .same _, .same _, .same _, .same _, .same _, .same _, trivial⟩ ⟨.same _, .same _, .same _, .same _, trivial⟩) ?_
        refine Ok.drawE2 (σ' := ⟨[(1, (.bref 1 0)), (2, (.bref 2 0)), (14, (.sref 10)), (15, (.v (.int .i64 (t3.length : Int)))), (16, (.v (.int .i64 x16_5)))], [(1, (.box true [(.v (.int .i64 y1_0_6)), (S y1_1_7), (S y1_2_8), (L 3 e_api_Attr y1_3_9), (.sref 10), (S y1_5_10)])), (2, (.box true [(.v (.int .i64 y2_0_11)), (S y2_1_12), (S y2_2_13), (L 3 e_api_Attr y2_3_14), (L 6 e_api_Node y2_4_15), (S y2_5_16)])), (10, (.rows true 27 6 ((y10_17.set (Int.toNat x16_5) t33).map e_api_Node)))]⟩) [⟨true, [(1, (.bref 1 0))], [(1, (.box true [(.v (.int .i64 y1_0_6)), (S y1_1_7), (S y1_2_8), (L 3 e_api_Attr y1_3_9), (.sref 10), (S y1_5_10)]))], (.bref 1 4), none, false⟩, ⟨true, [(21, (.bref 1 4))], [(1, (.box true [(.v (.int .i64 y1_0_6)), (S y1_1_7), (S y1_2_8), (L 3 e_api_Attr y1_3_9), (.sref 10), (S y1_5_10)]))], (.sref 10), none, false⟩, ⟨true, [(3, (.v (.int .i64 x16_5)))], [], (.v (.int .i64 x16_5)), none, false⟩, ⟨true, [(4, (.bref 4 0))], [(4, (.box true [(.v (.int .i64 ((rd y10_17 x16_5).Kind))), (S ((rd y10_17 x16_5).Name.Space)), (S ((rd y10_17 x16_5).Name.Local)), (L 3 e_api_Attr ((rd y10_17 x16_5).Attrs)), (L 6 e_api_Node ((rd y10_17 x16_5).Kids)), (S ((rd y10_17 x16_5).Text))]))], (.agg (e_api_Node (rd y10_17 x16_5))), none, false⟩, ⟨true, [(24, (.agg (e_api_Node (rd y10_17 x16_5))))], [], (.agg (e_api_Node t33)), none, false⟩, ⟨true, [(22, (.sref 10)), (23, (.v (.int .i64 x16_5)))], [(10, (.rows true 27 6 (y10_17.map e_api_Node)))], (.eref 10 (Int.toNat x16_5) 0), none, false⟩, ⟨true, [(26, (.eref 10 (Int.toNat x16_5) 0)), (25, (.agg (e_api_Node t33)))], [(10, (.rows true 27 6 (y10_17.map e_api_Node)))], .junk, (some (10, (.rows true 27 6 ((y10_17.set (Int.toNat x16_5) t33).map e_api_Node)))), false⟩] [[], [0], [], [], [3], [1, 2], [4, 5]] mixed (by kernel_rfl) ?_ ?_
        · refine TxtE2.cons ⟨.same _, trivial⟩ ⟨rfl, trivial⟩ (It2.val rfl rfl (fun T hT => (VOk.g (VOk.to (VOk.fieldB rfl Try.underlying27 rfl sz25 rfl hT.1) rfl)))) ?_
          refine TxtE2.cons ⟨.same _, trivial⟩ ⟨rfl, trivial⟩ (It2.val rfl rfl (fun T hT => (VOk.g (VOk.loadB (d := (.sref 10)) rfl Try.underlying25 rfl rfl hT.1 rfl)))) ?_
          refine TxtE2.cons ⟨.same _, trivial⟩ trivial (It2.val rfl rfl (fun T hT => (VOk.g (VOk.mv (d := (.v (.int .i64 x16_5))) rfl rfl)))) ?_
          refine TxtE2.cons ⟨.same _, trivial⟩ ⟨rfl, trivial⟩ (It2.val rfl rfl (fun T hT => (VOk.g (VOk.to (d' := (.agg (e_api_Node (rd y10_17 x16_5)))) (.loadBAgg rfl Try.underlying27 rfl sz27 rfl hT.1 rfl) (congrArg D.agg (e_api_Node_c (rd y10_17 x16_5)).symm))))) ?_
          refine TxtE2.cons ⟨.same _, trivial⟩ trivial (It2.val rfl rfl (fun T hT => (GOk.call rfl rfl cl38 rfl (@ih _ _ h34) rfl))) ?_
          refine TxtE2.cons ⟨.same _, .same _, trivial⟩ ⟨rfl, trivial⟩ (It2.val rfl rfl (fun T hT => (VOk.g (VOk.indexTL (e := e_api_Node) (xs := y10_17) (i := x16_5) rfl Try.underlying25 sz27 rfl hT.1 rfl c35)))) ?_
          refine TxtE2.cons ⟨.same _, .same _, trivial⟩ ⟨rfl, trivial⟩ (It2.storeEL (e := e_api_Node) (xs := y10_17) (i := x16_5) (y := t33) rfl rfl sz27 rfl rfl rfl c35 rfl rfl rfl rfl rfl) ?_
          exact .done (.mk ⟨.same _, .same _, .same _, .same _, .same _, trivial⟩ ⟨.same _, .same _, .same _, trivial⟩)
        refine Ok.region (σ' := ⟨[(1, (.bref 1 0)), (2, (.bref 2 0)), (14, (.sref 10)), (15, (.v (.int .i64 (t3.length : Int)))), (16, (.v (.int .i64 (IntKind.i64.wrap (x16_5 + 1)))))], [(1, (.box true [(.v (.int .i64 y1_0_6)), (S y1_1_7), (S y1_2_8), (L 3 e_api_Attr y1_3_9), (.sref 10), (S y1_5_10)])), (2, (.box true [(.v (.int .i64 y2_0_11)), (S y2_1_12), (S y2_2_13), (L 3 e_api_Attr y2_3_14), (L 6 e_api_Node y2_4_15), (S y2_5_16)])), (10, (.rows true 27 6 ((y10_17.set (Int.toNat x16_5) t33).map e_api_Node)))]⟩) ?_ ?_
        · refine OpsOk.cons rfl (.v (VOk.arith (op := .add) (k := .i64) (a := x16_5) (b := 1) rfl rfl rfl rfl) rfl) ?_
          refine OpsOk.cons rfl (.v (VOk.mv (d := (.v (.int .i64 (IntKind.i64.wrap (x16_5 + 1))))) rfl rfl) rfl) ?_
          exact .done (.mk ⟨.same _, .same _, .same _, .same _, .same _, trivial⟩ ⟨.same _, .same _, .same _, trivial⟩)
        exact ⟨m31, Nat.lt_succ_self m31, y1_0_6, y1_1_7, y1_2_8, y1_3_9, y1_5_10, y2_0_11, y2_1_12, y2_2_13, y2_3_14, y2_4_15, y2_5_16, (y10_17.set (Int.toNat x16_5) t33), (IntKind.i64.wrap (x16_5 + 1)), rfl, H⟩
      · replace H := ifF H hb36
        refine Ok.le (σ' := ⟨[(1, (.bref 1 0)), (2, (.bref 2 0))], [(1, (.box true [(.v (.int .i64 y1_0_6)), (S y1_1_7), (S y1_2_8), (L 3 e_api_Attr y1_3_9), (.sref 10), (S y1_5_10)])), (2, (.box true [(.v (.int .i64 y2_0_11)), (S y2_1_12), (S y2_2_13), (L 3 e_api_Attr y2_3_14), (L 6 e_api_Node y2_4_15), (S y2_5_16)])), (10, (.rows true 27 6 (y10_17.map e_api_Node)))]⟩) (.mk ⟨.same _, .same _, trivial⟩ ⟨.same _, .same _, .same _, trivial⟩) ?_
        refine Ok.exit ?_
        refine Ok.seq ?_
        refine Ok.region (σ' := ⟨[(2, (.bref 2 0))], [(2, (.box true [(.v (.int .i64 ((T_api_Node.mk y1_0_6 (T_api_Name.mk y1_1_7 y1_2_8) y1_3_9 y10_17 y1_5_10).Kind))), (S ((T_api_Node.mk y1_0_6 (T_api_Name.mk y1_1_7 y1_2_8) y1_3_9 y10_17 y1_5_10).Name.Space)), (S ((T_api_Node.mk y1_0_6 (T_api_Name.mk y1_1_7 y1_2_8) y1_3_9 y10_17 y1_5_10).Name.Local)), (L 3 e_api_Attr ((T_api_Node.mk y1_0_6 (T_api_Name.mk y1_1_7 y1_2_8) y1_3_9 y10_17 y1_5_10).Attrs)), (L 6 e_api_Node ((T_api_Node.mk y1_0_6 (T_api_Name.mk y1_1_7 y1_2_8) y1_3_9 y10_17 y1_5_10).Kids)), (S ((T_api_Node.mk y1_0_6 (T_api_Name.mk y1_1_7 y1_2_8) y1_3_9 y10_17 y1_5_10).Text))]))]⟩) ?_ ?_
        · refine OpsOk.frzL 10 (e := e_api_Node) (xs := y10_17) rfl ?_
          refine OpsOk.cons rfl (.v (VOk.to (d' := (.agg (e_api_Node (T_api_Node.mk y1_0_6 (T_api_Name.mk y1_1_7 y1_2_8) y1_3_9 y10_17 y1_5_10)))) (.loadBAgg rfl Try.underlying27 rfl sz27 rfl rfl rfl) (congrArg D.agg (e_api_Node_c (T_api_Node.mk y1_0_6 (T_api_Name.mk y1_1_7 y1_2_8) y1_3_9 y10_17 y1_5_10)).symm)) rfl) ?_
          refine OpsOk.cut (σ := ⟨[(1, (.bref 1 0)), (2, (.bref 2 0)), (28, (.agg [(.v (.int .i64 ((T_api_Node.mk y1_0_6 (T_api_Name.mk y1_1_7 y1_2_8) y1_3_9 y10_17 y1_5_10).Kind))), (S ((T_api_Node.mk y1_0_6 (T_api_Name.mk y1_1_7 y1_2_8) y1_3_9 y10_17 y1_5_10).Name.Space)), (S ((T_api_Node.mk y1_0_6 (T_api_Name.mk y1_1_7 y1_2_8) y1_3_9 y10_17 y1_5_10).Name.Local)), (L 3 e_api_Attr ((T_api_Node.mk y1_0_6 (T_api_Name.mk y1_1_7 y1_2_8) y1_3_9 y10_17 y1_5_10).Attrs)), (L 6 e_api_Node ((T_api_Node.mk y1_0_6 (T_api_Name.mk y1_1_7 y1_2_8) y1_3_9 y10_17 y1_5_10).Kids)), (S ((T_api_Node.mk y1_0_6 (T_api_Name.mk y1_1_7 y1_2_8) y1_3_9 y10_17 y1_5_10).Text))]))], [(1, (.box true [(.v (.int .i64 y1_0_6)), (S y1_1_7), (S y1_2_8), (L 3 e_api_Attr y1_3_9), (L 6 e_api_Node y10_17), (S y1_5_10)])), (2, (.box true [(.v (.int .i64 y2_0_11)), (S y2_1_12), (S y2_2_13), (L 3 e_api_Attr y2_3_14), (L 6 e_api_Node y2_4_15), (S y2_5_16)]))]⟩) (.mk ⟨.same _, .same _, DLe.of_eq (congrArg D.agg (e_api_Node_c _).symm), trivial⟩ ⟨.same _, .same _, trivial⟩) ?_
          refine OpsOk.cons rfl (OpOk.to (σ2 := St.put ⟨_, (2, (.box true [(.v (.int .i64 ((T_api_Node.mk y1_0_6 (T_api_Name.mk y1_1_7 y1_2_8) y1_3_9 y10_17 y1_5_10).Kind))), (S ((T_api_Node.mk y1_0_6 (T_api_Name.mk y1_1_7 y1_2_8) y1_3_9 y10_17 y1_5_10).Name.Space)), (S ((T_api_Node.mk y1_0_6 (T_api_Name.mk y1_1_7 y1_2_8) y1_3_9 y10_17 y1_5_10).Name.Local)), (L 3 e_api_Attr ((T_api_Node.mk y1_0_6 (T_api_Name.mk y1_1_7 y1_2_8) y1_3_9 y10_17 y1_5_10).Attrs)), (L 6 e_api_Node ((T_api_Node.mk y1_0_6 (T_api_Name.mk y1_1_7 y1_2_8) y1_3_9 y10_17 y1_5_10).Kids)), (S ((T_api_Node.mk y1_0_6 (T_api_Name.mk y1_1_7 y1_2_8) y1_3_9 y10_17 y1_5_10).Text))])) :: _⟩ _ .junk) (.storeB rfl sz27 rfl rfl rfl rfl rfl) rfl) ?_
          exact .done (.mk ⟨.same _, trivial⟩ ⟨.same _, trivial⟩)
        refine Ok.le (σ' := ⟨[(2, (.bref 2 0))], [(2, (.box true [(.v (.int .i64 ((T_api_Node.mk y1_0_6 (T_api_Name.mk y1_1_7 y1_2_8) y1_3_9 y10_17 y1_5_10).Kind))), (S ((T_api_Node.mk y1_0_6 (T_api_Name.mk y1_1_7 y1_2_8) y1_3_9 y10_17 y1_5_10).Name.Space)), (S ((T_api_Node.mk y1_0_6 (T_api_Name.mk y1_1_7 y1_2_8) y1_3_9 y10_17 y1_5_10).Name.Local)), (L 3 e_api_Attr ((T_api_Node.mk y1_0_6 (T_api_Name.mk y1_1_7 y1_2_8) y1_3_9 y10_17 y1_5_10).Attrs)), (L 6 e_api_Node ((T_api_Node.mk y1_0_6 (T_api_Name.mk y1_1_7 y1_2_8) y1_3_9 y10_17 y1_5_10).Kids)), (S ((T_api_Node.mk y1_0_6 (T_api_Name.mk y1_1_7 y1_2_8) y1_3_9 y10_17 y1_5_10).Text))]))]⟩) (.mk ⟨.same _, trivial⟩ ⟨.same _, trivial⟩) ?_
        refine Ok.ret ?_
        obtain rfl := Option.some.inj H
        exact ⟨.inl rfl, ⟨_, (.cons (.cell (VOk.to (d' := (.agg (e_api_Node (T_api_Node.mk y1_0_6 (T_api_Name.mk y1_1_7 y1_2_8) y1_3_9 y10_17 y1_5_10)))) (.loadBAgg rfl Try.underlying27 rfl sz27 rfl rfl rfl) (congrArg D.agg (e_api_Node_c (T_api_Node.mk y1_0_6 (T_api_Name.mk y1_1_7 y1_2_8) y1_3_9 y10_17 y1_5_10)).symm))) .nil), rfl⟩, trivial⟩

/-! watchbill/path.At: function 20 -/
def path_At.l0 (k : Nat) (a1 : List Int) : Nat → Int → Str → Str → List T_api_Attr → List T_api_Node → Str → Int → Str → Str → List T_api_Attr → List T_api_Node → Str → Int → Option (T_api_Node × Bool)
  | 0, _, _, _, _, _, _, _, _, _, _, _, _, _ => none
  | m27 + 1, y2_0_2, y2_1_3, y2_2_4, y2_3_5, y2_4_6, y2_5_7, y4_0_8, y4_1_9, y4_2_10, y4_3_11, y4_4_12, y4_5_13, x10_1 => (if (decide (x10_1 < (a1.length : Int))) = true then (if (0 : Int) ≤ x10_1 ∧ x10_1 < (a1.length : Int) then ((path_kid (T_api_Node.mk y2_0_2 (T_api_Name.mk y2_1_3 y2_2_4) y2_3_5 y2_4_6 y2_5_7) (rd a1 x10_1)).bind fun (t29 : Bool) => (if (!t29) = true then some ((T_api_Node.mk 0 (T_api_Name.mk ([] : Str) ([] : Str)) ([] : List T_api_Attr) ([] : List T_api_Node) ([] : Str)), false) else (if (0 : Int) ≤ (rd a1 x10_1) ∧ (rd a1 x10_1) < (y2_4_6.length : Int) then path_At.l0 k a1 m27 ((rd y2_4_6 (rd a1 x10_1)).Kind) ((rd y2_4_6 (rd a1 x10_1)).Name.Space) ((rd y2_4_6 (rd a1 x10_1)).Name.Local) ((rd y2_4_6 (rd a1 x10_1)).Attrs) ((rd y2_4_6 (rd a1 x10_1)).Kids) ((rd y2_4_6 (rd a1 x10_1)).Text) y4_0_8 y4_1_9 y4_2_10 y4_3_11 y4_4_12 y4_5_13 (IntKind.i64.wrap (x10_1 + 1)) else none))) else none) else ((tree_Copy k (T_api_Node.mk y2_0_2 (T_api_Name.mk y2_1_3 y2_2_4) y2_3_5 y2_4_6 y2_5_7)).bind fun (t33 : T_api_Node) => some (t33, true)))
def path_At (k : Nat) (a0 : T_api_Node) (a1 : List Int) : Option (T_api_Node × Bool) := path_At.l0 k a1 k a0.Kind a0.Name.Space a0.Name.Local a0.Attrs a0.Kids a0.Text 0 ([] : Str) ([] : Str) ([] : List T_api_Attr) ([] : List T_api_Node) ([] : Str) 0
theorem path_At.ok {k : Nat} {a0 : T_api_Node} {a1 : List Int} {r : T_api_Node × Bool} (H : path_At k a0 a1 = some r) : Vx.Fn Try.prog 20 [(.agg (e_api_Node a0)), (L 1 (eI .i64) a1)] [] (.tup [(.agg (e_api_Node r.1)), (.v (.bool r.2))]) [] := by
  unfold path_At at H
  refine Vx.Fn.of_okR Try.func20 rfl (Nat.le_of_ble_eq_true rfl) ?_
  refine Ok.seq ?_
  refine Ok.region (σ' := ⟨[(1, (L 1 (eI .i64) a1)), (2, (.bref 2 0)), (4, (.bref 4 0))], [(2, (.box true [(.v (.int .i64 a0.Kind)), (S a0.Name.Space), (S a0.Name.Local), (L 3 e_api_Attr a0.Attrs), (L 6 e_api_Node a0.Kids), (S a0.Text)])), (4, (.box true [(.v (.int .i64 0)), (S ([] : Str)), (S ([] : Str)), (L 3 e_api_Attr ([] : List T_api_Attr)), (L 6 e_api_Node ([] : List T_api_Node)), (S ([] : Str))]))]⟩) ?_ ?_
  · refine OpsOk.cut (σ := ⟨[(0, (.agg [(.v (.int .i64 a0.Kind)), (S a0.Name.Space), (S a0.Name.Local), (L 3 e_api_Attr a0.Attrs), (L 6 e_api_Node a0.Kids), (S a0.Text)])), (1, (L 1 (eI .i64) a1))], []⟩) (.mk ⟨DLe.of_eq (congrArg D.agg (e_api_Node_c _).symm), .same _, trivial⟩ trivial) ?_
    refine OpsOk.cons rfl (OpOk.box 2 (cells := [(.v (.int .i64 a0.Kind)), (S a0.Name.Space), (S a0.Name.Local), (L 3 e_api_Attr a0.Attrs), (L 6 e_api_Node a0.Kids), (S a0.Text)]) rfl rfl rfl rfl) ?_
    refine OpsOk.cons rfl (OpOk.alloc 4 [none, none, none, some 3, some 6, none] rfl zo27 rfl rfl) ?_
    refine OpsOk.cons rfl (.v (VOk.asg (d := (.v (.bool false))) rfl rfl) rfl) ?_
    exact .done (.mk ⟨.same _, .same _, .same _, trivial⟩ ⟨.same _, .same _, trivial⟩)
  refine Ok.seq ?_
  refine Ok.seq ?_
  refine Ok.region (σ' := ⟨[(2, (.bref 2 0)), (4, (.bref 4 0)), (8, (L 1 (eI .i64) a1)), (9, (.v (.int .i64 (a1.length : Int)))), (10, (.v (.int .i64 0)))], [(2, (.box true [(.v (.int .i64 a0.Kind)), (S a0.Name.Space), (S a0.Name.Local), (L 3 e_api_Attr a0.Attrs), (L 6 e_api_Node a0.Kids), (S a0.Text)])), (4, (.box true [(.v (.int .i64 0)), (S ([] : Str)), (S ([] : Str)), (L 3 e_api_Attr ([] : List T_api_Attr)), (L 6 e_api_Node ([] : List T_api_Node)), (S ([] : Str))]))]⟩) ?_ ?_
  · refine OpsOk.cons rfl (.v (VOk.mv (d := (L 1 (eI .i64) a1)) rfl rfl) rfl) ?_
    refine OpsOk.cons rfl (.v (VOk.lenL (e := (eI .i64)) (xs := a1) rfl Try.underlying39 rfl) rfl) ?_
    refine OpsOk.cons rfl (.v (VOk.mv (d := (.v (.int .i64 0))) rfl rfl) rfl) ?_
    exact .done (.mk ⟨.same _, .same _, .same _, .same _, .same _, trivial⟩ ⟨.same _, .same _, trivial⟩)
  refine Ok.block ?_
  refine Ok.le (σ' := ⟨[(2, (.bref 2 0)), (4, (.bref 4 0)), (8, (L 1 (eI .i64) a1)), (9, (.v (.int .i64 (a1.length : Int)))), (10, (.v (.int .i64 0)))], [(2, (.box true [(.v (.int .i64 a0.Kind)), (S a0.Name.Space), (S a0.Name.Local), (L 3 e_api_Attr a0.Attrs), (L 6 e_api_Node a0.Kids), (S a0.Text)])), (4, (.box true [(.v (.int .i64 0)), (S ([] : Str)), (S ([] : Str)), (L 3 e_api_Attr ([] : List T_api_Attr)), (L 6 e_api_Node ([] : List T_api_Node)), (S ([] : Str))]))]⟩) (.mk ⟨.same _, .same _, .same _, .same _, .same _, trivial⟩ ⟨.same _, .same _, trivial⟩) ?_
  refine Ok.loop (fun m27 σ => ∃ (y2_0_2 : Int) (y2_1_3 : Str) (y2_2_4 : Str) (y2_3_5 : List T_api_Attr) (y2_4_6 : List T_api_Node) (y2_5_7 : Str) (y4_0_8 : Int) (y4_1_9 : Str) (y4_2_10 : Str) (y4_3_11 : List T_api_Attr) (y4_4_12 : List T_api_Node) (y4_5_13 : Str) (x10_1 : Int), σ = ⟨[(2, (.bref 2 0)), (4, (.bref 4 0)), (8, (L 1 (eI .i64) a1)), (9, (.v (.int .i64 (a1.length : Int)))), (10, (.v (.int .i64 x10_1)))], [(2, (.box true [(.v (.int .i64 y2_0_2)), (S y2_1_3), (S y2_2_4), (L 3 e_api_Attr y2_3_5), (L 6 e_api_Node y2_4_6), (S y2_5_7)])), (4, (.box true [(.v (.int .i64 y4_0_8)), (S y4_1_9), (S y4_2_10), (L 3 e_api_Attr y4_3_11), (L 6 e_api_Node y4_4_12), (S y4_5_13)]))]⟩ ∧ path_At.l0 k a1 m27 y2_0_2 y2_1_3 y2_2_4 y2_3_5 y2_4_6 y2_5_7 y4_0_8 y4_1_9 y4_2_10 y4_3_11 y4_4_12 y4_5_13 x10_1 = some r) k ⟨a0.Kind, a0.Name.Space, a0.Name.Local, a0.Attrs, a0.Kids, a0.Text, 0, ([] : Str), ([] : Str), ([] : List T_api_Attr), ([] : List T_api_Node), ([] : Str), 0, rfl, H⟩ ?_
  rintro m27 σ ⟨y2_0_2, y2_1_3, y2_2_4, y2_3_5, y2_4_6, y2_5_7, y4_0_8, y4_1_9, y4_2_10, y4_3_11, y4_4_12, y4_5_13, x10_1, rfl, H⟩
  cases m27 with
  | zero => exact absurd H (by simp [path_At.l0])
  | succ m27 =>
    unfold path_At.l0 at H
    refine Ok.seq ?_
    refine Ok.region (σ' := ⟨[(2, (.bref 2 0)), (4, (.bref 4 0)), (8, (L 1 (eI .i64) a1)), (9, (.v (.int .i64 (a1.length : Int)))), (10, (.v (.int .i64 x10_1))), (11, (.v (.bool (decide (x10_1 < (a1.length : Int))))))], [(2, (.box true [(.v (.int .i64 y2_0_2)), (S y2_1_3), (S y2_2_4), (L 3 e_api_Attr y2_3_5), (L 6 e_api_Node y2_4_6), (S y2_5_7)])), (4, (.box true [(.v (.int .i64 y4_0_8)), (S y4_1_9), (S y4_2_10), (L 3 e_api_Attr y4_3_11), (L 6 e_api_Node y4_4_12), (S y4_5_13)]))]⟩) ?_ ?_
    · refine OpsOk.cons rfl (.v (VOk.arith (op := .lss) (k := .i64) (a := x10_1) (b := (a1.length : Int)) rfl rfl rfl rfl) rfl) ?_
      exact .done (.mk ⟨.same _, .same _, .same _, .same _, .same _, .same _, trivial⟩ ⟨.same _, .same _, trivial⟩)
    refine Ok.seq ?_
    refine Ok.test (b := (decide (x10_1 < (a1.length : Int)))) rfl (fun hb35 => ?_) (fun hb35 => ?_)
    · replace H := ifT H hb35
      refine Ok.le (σ' := ⟨[(2, (.bref 2 0)), (4, (.bref 4 0)), (8, (L 1 (eI .i64) a1)), (9, (.v (.int .i64 (a1.length : Int)))), (10, (.v (.int .i64 x10_1)))], [(2, (.box true [(.v (.int .i64 y2_0_2)), (S y2_1_3), (S y2_2_4), (L 3 e_api_Attr y2_3_5), (L 6 e_api_Node y2_4_6), (S y2_5_7)])), (4, (.box true [(.v (.int .i64 y4_0_8)), (S y4_1_9), (S y4_2_10), (L 3 e_api_Attr y4_3_11), (L 6 e_api_Node y4_4_12), (S y4_5_13)]))]⟩) (.mk ⟨.same _, .same _, .same _, .same _, .same _, trivial⟩ ⟨.same _, .same _, trivial⟩) ?_
      refine Ok.skip ?_
      refine Ok.seq ?_
      refine Ok.block ?_
      refine Ok.seq ?_
      obtain ⟨c28, H⟩ := assertE H
      refine Ok.region (σ' := ⟨[(2, (.bref 2 0)), (4, (.bref 4 0)), (7, (.v (.int .i64 (rd a1 x10_1)))), (8, (L 1 (eI .i64) a1)), (9, (.v (.int .i64 (a1.length : Int)))), (10, (.v (.int .i64 x10_1)))], [(2, (.box true [(.v (.int .i64 y2_0_2)), (S y2_1_3), (S y2_2_4), (L 3 e_api_Attr y2_3_5), (L 6 e_api_Node y2_4_6), (S y2_5_7)])), (4, (.box true [(.v (.int .i64 y4_0_8)), (S y4_1_9), (S y4_2_10), (L 3 e_api_Attr y4_3_11), (L 6 e_api_Node y4_4_12), (S y4_5_13)]))]⟩) ?_ ?_
      · refine OpsOk.cons rfl (.v (VOk.indexL (sz := 1) (e := (eI .i64)) (xs := a1) (i := x10_1) rfl Try.underlying39 sz3 rfl rfl c28) rfl) ?_
        refine OpsOk.cons rfl (.v (VOk.loadFp (d := (.v (.int .i64 (rd a1 x10_1)))) rfl Try.underlying3 rfl rfl rfl) rfl) ?_
        refine OpsOk.cons rfl (.v (VOk.asg (d := (.v (.int .i64 (rd a1 x10_1)))) rfl rfl) rfl) ?_
        exact .done (.mk ⟨.same _, .same _, .same _, .same _, .same _, .same _, trivial⟩ ⟨.same _, .same _, trivial⟩)
      refine Ok.seq ?_
      refine Ok.seq ?_
      obtain ⟨t29, h30, H⟩ := bindE H
      refine Ok.region (σ' := ⟨[(2, (.bref 2 0)), (4, (.bref 4 0)), (7, (.v (.int .i64 (rd a1 x10_1)))), (8, (L 1 (eI .i64) a1)), (9, (.v (.int .i64 (a1.length : Int)))), (10, (.v (.int .i64 x10_1))), (17, (.v (.bool (!t29))))], [(2, (.box true [(.v (.int .i64 y2_0_2)), (S y2_1_3), (S y2_2_4), (L 3 e_api_Attr y2_3_5), (L 6 e_api_Node y2_4_6), (S y2_5_7)])), (4, (.box true [(.v (.int .i64 y4_0_8)), (S y4_1_9), (S y4_2_10), (L 3 e_api_Attr y4_3_11), (L 6 e_api_Node y4_4_12), (S y4_5_13)]))]⟩) ?_ ?_
      · refine OpsOk.cons rfl (.v (VOk.to (d' := (.agg (e_api_Node (T_api_Node.mk y2_0_2 (T_api_Name.mk y2_1_3 y2_2_4) y2_3_5 y2_4_6 y2_5_7)))) (.loadBAgg rfl Try.underlying27 rfl sz27 rfl rfl rfl) (congrArg D.agg (e_api_Node_c (T_api_Node.mk y2_0_2 (T_api_Name.mk y2_1_3 y2_2_4) y2_3_5 y2_4_6 y2_5_7)).symm)) rfl) ?_
        refine OpsOk.cons rfl (.v (VOk.mv (d := (.v (.int .i64 (rd a1 x10_1)))) rfl rfl) rfl) ?_
        refine OpsOk.cons rfl (.g (GOk.call rfl rfl cl37 rfl (path_kid.ok h30) rfl) rfl) ?_
        refine OpsOk.cons rfl (.v (VOk.not (b := t29) rfl rfl) rfl) ?_
        exact .done (.mk ⟨.same _, .same _, .same _, .same _, .same _, .same _, .same _, trivial⟩ ⟨.same _, .same _, trivial⟩)
      refine Ok.test (b := (!t29)) rfl (fun hb32 => ?_) (fun hb32 => ?_)
      · replace H := ifT H hb32
        refine Ok.seq ?_
        refine Ok.region (σ' := ⟨[(4, (.bref 4 0)), (5, (.v (.bool false)))], [(4, (.box true [(.v (.int .i64 ((T_api_Node.mk 0 (T_api_Name.mk ([] : Str) ([] : Str)) ([] : List T_api_Attr) ([] : List T_api_Node) ([] : Str)).Kind))), (S ((T_api_Node.mk 0 (T_api_Name.mk ([] : Str) ([] : Str)) ([] : List T_api_Attr) ([] : List T_api_Node) ([] : Str)).Name.Space)), (S ((T_api_Node.mk 0 (T_api_Name.mk ([] : Str) ([] : Str)) ([] : List T_api_Attr) ([] : List T_api_Node) ([] : Str)).Name.Local)), (L 3 e_api_Attr ((T_api_Node.mk 0 (T_api_Name.mk ([] : Str) ([] : Str)) ([] : List T_api_Attr) ([] : List T_api_Node) ([] : Str)).Attrs)), (L 6 e_api_Node ((T_api_Node.mk 0 (T_api_Name.mk ([] : Str) ([] : Str)) ([] : List T_api_Attr) ([] : List T_api_Node) ([] : Str)).Kids)), (S ((T_api_Node.mk 0 (T_api_Name.mk ([] : Str) ([] : Str)) ([] : List T_api_Attr) ([] : List T_api_Node) ([] : Str)).Text))]))]⟩) ?_ ?_
        · refine OpsOk.cons rfl (.v (VOk.to (d' := (.agg (e_api_Node (T_api_Node.mk 0 (T_api_Name.mk ([] : Str) ([] : Str)) ([] : List T_api_Attr) ([] : List T_api_Node) ([] : Str))))) (.build [none, none, none, some 3, some 6, none] [(0, 1), (1, 2), (3, 1), (4, 1), (5, 1)] rfl Try.underlying27 (fa27 Try.underlying27) zo27 rfl rfl) (congrArg D.agg (e_api_Node_c (T_api_Node.mk 0 (T_api_Name.mk ([] : Str) ([] : Str)) ([] : List T_api_Attr) ([] : List T_api_Node) ([] : Str))).symm)) rfl) ?_
          refine OpsOk.cut (σ := ⟨[(2, (.bref 2 0)), (4, (.bref 4 0)), (7, (.v (.int .i64 (rd a1 x10_1)))), (8, (L 1 (eI .i64) a1)), (9, (.v (.int .i64 (a1.length : Int)))), (10, (.v (.int .i64 x10_1))), (17, (.v (.bool (!t29)))), (18, (.agg [(.v (.int .i64 ((T_api_Node.mk 0 (T_api_Name.mk ([] : Str) ([] : Str)) ([] : List T_api_Attr) ([] : List T_api_Node) ([] : Str)).Kind))), (S ((T_api_Node.mk 0 (T_api_Name.mk ([] : Str) ([] : Str)) ([] : List T_api_Attr) ([] : List T_api_Node) ([] : Str)).Name.Space)), (S ((T_api_Node.mk 0 (T_api_Name.mk ([] : Str) ([] : Str)) ([] : List T_api_Attr) ([] : List T_api_Node) ([] : Str)).Name.Local)), (L 3 e_api_Attr ((T_api_Node.mk 0 (T_api_Name.mk ([] : Str) ([] : Str)) ([] : List T_api_Attr) ([] : List T_api_Node) ([] : Str)).Attrs)), (L 6 e_api_Node ((T_api_Node.mk 0 (T_api_Name.mk ([] : Str) ([] : Str)) ([] : List T_api_Attr) ([] : List T_api_Node) ([] : Str)).Kids)), (S ((T_api_Node.mk 0 (T_api_Name.mk ([] : Str) ([] : Str)) ([] : List T_api_Attr) ([] : List T_api_Node) ([] : Str)).Text))]))], [(2, (.box true [(.v (.int .i64 y2_0_2)), (S y2_1_3), (S y2_2_4), (L 3 e_api_Attr y2_3_5), (L 6 e_api_Node y2_4_6), (S y2_5_7)])), (4, (.box true [(.v (.int .i64 y4_0_8)), (S y4_1_9), (S y4_2_10), (L 3 e_api_Attr y4_3_11), (L 6 e_api_Node y4_4_12), (S y4_5_13)]))]⟩) (.mk ⟨.same _, .same _, .same _, .same _, .same _, .same _, .same _, DLe.of_eq (congrArg D.agg (e_api_Node_c _).symm), trivial⟩ ⟨.same _, .same _, trivial⟩) ?_
          refine OpsOk.cons rfl (OpOk.to (σ2 := St.put ⟨_, (4, (.box true [(.v (.int .i64 ((T_api_Node.mk 0 (T_api_Name.mk ([] : Str) ([] : Str)) ([] : List T_api_Attr) ([] : List T_api_Node) ([] : Str)).Kind))), (S ((T_api_Node.mk 0 (T_api_Name.mk ([] : Str) ([] : Str)) ([] : List T_api_Attr) ([] : List T_api_Node) ([] : Str)).Name.Space)), (S ((T_api_Node.mk 0 (T_api_Name.mk ([] : Str) ([] : Str)) ([] : List T_api_Attr) ([] : List T_api_Node) ([] : Str)).Name.Local)), (L 3 e_api_Attr ((T_api_Node.mk 0 (T_api_Name.mk ([] : Str) ([] : Str)) ([] : List T_api_Attr) ([] : List T_api_Node) ([] : Str)).Attrs)), (L 6 e_api_Node ((T_api_Node.mk 0 (T_api_Name.mk ([] : Str) ([] : Str)) ([] : List T_api_Attr) ([] : List T_api_Node) ([] : Str)).Kids)), (S ((T_api_Node.mk 0 (T_api_Name.mk ([] : Str) ([] : Str)) ([] : List T_api_Attr) ([] : List T_api_Node) ([] : Str)).Text))])) :: _⟩ _ .junk) (.storeB rfl sz27 rfl rfl rfl rfl rfl) rfl) ?_
          refine OpsOk.cons rfl (.v (VOk.asg (d := (.v (.bool false))) rfl rfl) rfl) ?_
          exact .done (.mk ⟨.same _, .same _, trivial⟩ ⟨.same _, trivial⟩)
        refine Ok.le (σ' := ⟨[(4, (.bref 4 0)), (5, (.v (.bool false)))], [(4, (.box true [(.v (.int .i64 ((T_api_Node.mk 0 (T_api_Name.mk ([] : Str) ([] : Str)) ([] : List T_api_Attr) ([] : List T_api_Node) ([] : Str)).Kind))), (S ((T_api_Node.mk 0 (T_api_Name.mk ([] : Str) ([] : Str)) ([] : List T_api_Attr) ([] : List T_api_Node) ([] : Str)).Name.Space)), (S ((T_api_Node.mk 0 (T_api_Name.mk ([] : Str) ([] : Str)) ([] : List T_api_Attr) ([] : List T_api_Node) ([] : Str)).Name.Local)), (L 3 e_api_Attr ((T_api_Node.mk 0 (T_api_Name.mk ([] : Str) ([] : Str)) ([] : List T_api_Attr) ([] : List T_api_Node) ([] : Str)).Attrs)), (L 6 e_api_Node ((T_api_Node.mk 0 (T_api_Name.mk ([] : Str) ([] : Str)) ([] : List T_api_Attr) ([] : List T_api_Node) ([] : Str)).Kids)), (S ((T_api_Node.mk 0 (T_api_Name.mk ([] : Str) ([] : Str)) ([] : List T_api_Attr) ([] : List T_api_Node) ([] : Str)).Text))]))]⟩) (.mk ⟨.same _, .same _, trivial⟩ ⟨.same _, trivial⟩) ?_
        refine Ok.ret ?_
        obtain rfl := Option.some.inj H
        exact ⟨.inl rfl, ⟨_, (.cons (.cell (VOk.to (d' := (.agg (e_api_Node (T_api_Node.mk 0 (T_api_Name.mk ([] : Str) ([] : Str)) ([] : List T_api_Attr) ([] : List T_api_Node) ([] : Str))))) (.loadBAgg rfl Try.underlying27 rfl sz27 rfl rfl rfl) (congrArg D.agg (e_api_Node_c (T_api_Node.mk 0 (T_api_Name.mk ([] : Str) ([] : Str)) ([] : List T_api_Attr) ([] : List T_api_Node) ([] : Str))).symm))) (.cons (.tmp rfl) .nil)), rfl⟩, trivial⟩
      · replace H := ifF H hb32
        refine Ok.le (σ' := ⟨[(2, (.bref 2 0)), (4, (.bref 4 0)), (7, (.v (.int .i64 (rd a1 x10_1)))), (8, (L 1 (eI .i64) a1)), (9, (.v (.int .i64 (a1.length : Int)))), (10, (.v (.int .i64 x10_1)))], [(2, (.box true [(.v (.int .i64 y2_0_2)), (S y2_1_3), (S y2_2_4), (L 3 e_api_Attr y2_3_5), (L 6 e_api_Node y2_4_6), (S y2_5_7)])), (4, (.box true [(.v (.int .i64 y4_0_8)), (S y4_1_9), (S y4_2_10), (L 3 e_api_Attr y4_3_11), (L 6 e_api_Node y4_4_12), (S y4_5_13)]))]⟩) (.mk ⟨.same _, .same _, .same _, .same _, .same _, .same _, trivial⟩ ⟨.same _, .same _, trivial⟩) ?_
        refine Ok.skip ?_
        obtain ⟨c31, H⟩ := assertE H
        refine Ok.region (σ' := ⟨[(2, (.bref 2 0)), (4, (.bref 4 0)), (8, (L 1 (eI .i64) a1)), (9, (.v (.int .i64 (a1.length : Int)))), (10, (.v (.int .i64 x10_1)))], [(2, (.box true [(.v (.int .i64 ((rd y2_4_6 (rd a1 x10_1)).Kind))), (S ((rd y2_4_6 (rd a1 x10_1)).Name.Space)), (S ((rd y2_4_6 (rd a1 x10_1)).Name.Local)), (L 3 e_api_Attr ((rd y2_4_6 (rd a1 x10_1)).Attrs)), (L 6 e_api_Node ((rd y2_4_6 (rd a1 x10_1)).Kids)), (S ((rd y2_4_6 (rd a1 x10_1)).Text))])), (4, (.box true [(.v (.int .i64 y4_0_8)), (S y4_1_9), (S y4_2_10), (L 3 e_api_Attr y4_3_11), (L 6 e_api_Node y4_4_12), (S y4_5_13)]))]⟩) ?_ ?_
        · refine OpsOk.cons rfl (.v (VOk.to (VOk.fieldB rfl Try.underlying27 rfl sz25 rfl rfl) rfl) rfl) ?_
          refine OpsOk.cons rfl (.v (VOk.loadB (d := (L 6 e_api_Node y2_4_6)) rfl Try.underlying25 rfl rfl rfl rfl) rfl) ?_
          refine OpsOk.cons rfl (.v (VOk.mv (d := (.v (.int .i64 (rd a1 x10_1)))) rfl rfl) rfl) ?_
          refine OpsOk.cons rfl (.v (VOk.indexL (sz := 6) (e := e_api_Node) (xs := y2_4_6) (i := (rd a1 x10_1)) rfl Try.underlying25 sz27 rfl rfl c31) rfl) ?_
          refine OpsOk.cons rfl (.v (VOk.to (d' := (.agg (e_api_Node (rd y2_4_6 (rd a1 x10_1))))) (.loadFpAgg rfl Try.underlying27 rfl sz27 rfl rfl) rfl) rfl) ?_
          refine OpsOk.cut (σ := ⟨[(2, (.bref 2 0)), (4, (.bref 4 0)), (7, (.v (.int .i64 (rd a1 x10_1)))), (8, (L 1 (eI .i64) a1)), (9, (.v (.int .i64 (a1.length : Int)))), (10, (.v (.int .i64 x10_1))), (19, (.bref 2 4)), (20, (L 6 e_api_Node y2_4_6)), (21, (.v (.int .i64 (rd a1 x10_1)))), (22, (.fp (e_api_Node (rd y2_4_6 (rd a1 x10_1))) 0)), (23, (.agg [(.v (.int .i64 ((rd y2_4_6 (rd a1 x10_1)).Kind))), (S ((rd y2_4_6 (rd a1 x10_1)).Name.Space)), (S ((rd y2_4_6 (rd a1 x10_1)).Name.Local)), (L 3 e_api_Attr ((rd y2_4_6 (rd a1 x10_1)).Attrs)), (L 6 e_api_Node ((rd y2_4_6 (rd a1 x10_1)).Kids)), (S ((rd y2_4_6 (rd a1 x10_1)).Text))]))], [(2, (.box true [(.v (.int .i64 y2_0_2)), (S y2_1_3), (S y2_2_4), (L 3 e_api_Attr y2_3_5), (L 6 e_api_Node y2_4_6), (S y2_5_7)])), (4, (.box true [(.v (.int .i64 y4_0_8)), (S y4_1_9), (S y4_2_10), (L 3 e_api_Attr y4_3_11), (L 6 e_api_Node y4_4_12), (S y4_5_13)]))]⟩) (.mk ⟨.same _, .same _, .same _, .same _, .same _, .same _, .same _, .same _, .same _, .same _, DLe.of_eq (congrArg D.agg (e_api_Node_c _).symm), trivial⟩ ⟨.same _, .same _, trivial⟩) ?_
          refine OpsOk.cons rfl (OpOk.to (σ2 := St.put ⟨_, (2, (.box true [(.v (.int .i64 ((rd y2_4_6 (rd a1 x10_1)).Kind))), (S ((rd y2_4_6 (rd a1 x10_1)).Name.Space)), (S ((rd y2_4_6 (rd a1 x10_1)).Name.Local)), (L 3 e_api_Attr ((rd y2_4_6 (rd a1 x10_1)).Attrs)), (L 6 e_api_Node ((rd y2_4_6 (rd a1 x10_1)).Kids)), (S ((rd y2_4_6 (rd a1 x10_1)).Text))])) :: _⟩ _ .junk) (.storeB rfl sz27 rfl rfl rfl rfl rfl) rfl) ?_
          exact .done (.mk ⟨.same _, .same _, .same _, .same _, .same _, trivial⟩ ⟨.same _, .same _, trivial⟩)
        refine Ok.region (σ' := ⟨[(2, (.bref 2 0)), (4, (.bref 4 0)), (8, (L 1 (eI .i64) a1)), (9, (.v (.int .i64 (a1.length : Int)))), (10, (.v (.int .i64 (IntKind.i64.wrap (x10_1 + 1)))))], [(2, (.box true [(.v (.int .i64 ((rd y2_4_6 (rd a1 x10_1)).Kind))), (S ((rd y2_4_6 (rd a1 x10_1)).Name.Space)), (S ((rd y2_4_6 (rd a1 x10_1)).Name.Local)), (L 3 e_api_Attr ((rd y2_4_6 (rd a1 x10_1)).Attrs)), (L 6 e_api_Node ((rd y2_4_6 (rd a1 x10_1)).Kids)), (S ((rd y2_4_6 (rd a1 x10_1)).Text))])), (4, (.box true [(.v (.int .i64 y4_0_8)), (S y4_1_9), (S y4_2_10), (L 3 e_api_Attr y4_3_11), (L 6 e_api_Node y4_4_12), (S y4_5_13)]))]⟩) ?_ ?_
        · refine OpsOk.cons rfl (.v (VOk.arith (op := .add) (k := .i64) (a := x10_1) (b := 1) rfl rfl rfl rfl) rfl) ?_
          refine OpsOk.cons rfl (.v (VOk.mv (d := (.v (.int .i64 (IntKind.i64.wrap (x10_1 + 1))))) rfl rfl) rfl) ?_
          exact .done (.mk ⟨.same _, .same _, .same _, .same _, .same _, trivial⟩ ⟨.same _, .same _, trivial⟩)
        exact ⟨m27, Nat.lt_succ_self m27, ((rd y2_4_6 (rd a1 x10_1)).Kind), ((rd y2_4_6 (rd a1 x10_1)).Name.Space), ((rd y2_4_6 (rd a1 x10_1)).Name.Local), ((rd y2_4_6 (rd a1 x10_1)).Attrs), ((rd y2_4_6 (rd a1 x10_1)).Kids), ((rd y2_4_6 (rd a1 x10_1)).Text), y4_0_8, y4_1_9, y4_2_10, y4_3_11, y4_4_12, y4_5_13, (IntKind.i64.wrap (x10_1 + 1)), rfl, H⟩
    · replace H := ifF H hb35
      refine Ok.le (σ' := ⟨[(2, (.bref 2 0)), (4, (.bref 4 0))], [(2, (.box true [(.v (.int .i64 y2_0_2)), (S y2_1_3), (S y2_2_4), (L 3 e_api_Attr y2_3_5), (L 6 e_api_Node y2_4_6), (S y2_5_7)])), (4, (.box true [(.v (.int .i64 y4_0_8)), (S y4_1_9), (S y4_2_10), (L 3 e_api_Attr y4_3_11), (L 6 e_api_Node y4_4_12), (S y4_5_13)]))]⟩) (.mk ⟨.same _, .same _, trivial⟩ ⟨.same _, .same _, trivial⟩) ?_
      refine Ok.exit ?_
      refine Ok.seq ?_
      obtain ⟨t33, h34, H⟩ := bindE H
      refine Ok.region (σ' := ⟨[(4, (.bref 4 0)), (5, (.v (.bool true)))], [(4, (.box true [(.v (.int .i64 t33.Kind)), (S t33.Name.Space), (S t33.Name.Local), (L 3 e_api_Attr t33.Attrs), (L 6 e_api_Node t33.Kids), (S t33.Text)]))]⟩) ?_ ?_
      · refine OpsOk.cons rfl (.v (VOk.to (d' := (.agg (e_api_Node (T_api_Node.mk y2_0_2 (T_api_Name.mk y2_1_3 y2_2_4) y2_3_5 y2_4_6 y2_5_7)))) (.loadBAgg rfl Try.underlying27 rfl sz27 rfl rfl rfl) (congrArg D.agg (e_api_Node_c (T_api_Node.mk y2_0_2 (T_api_Name.mk y2_1_3 y2_2_4) y2_3_5 y2_4_6 y2_5_7)).symm)) rfl) ?_
        refine OpsOk.cons rfl (.g (GOk.call rfl rfl cl38 rfl (tree_Copy.ok h34) rfl) rfl) ?_
        refine OpsOk.cut (σ := ⟨[(2, (.bref 2 0)), (4, (.bref 4 0)), (25, (.agg (e_api_Node (T_api_Node.mk y2_0_2 (T_api_Name.mk y2_1_3 y2_2_4) y2_3_5 y2_4_6 y2_5_7)))), (26, (.agg [(.v (.int .i64 t33.Kind)), (S t33.Name.Space), (S t33.Name.Local), (L 3 e_api_Attr t33.Attrs), (L 6 e_api_Node t33.Kids), (S t33.Text)]))], [(2, (.box true [(.v (.int .i64 y2_0_2)), (S y2_1_3), (S y2_2_4), (L 3 e_api_Attr y2_3_5), (L 6 e_api_Node y2_4_6), (S y2_5_7)])), (4, (.box true [(.v (.int .i64 y4_0_8)), (S y4_1_9), (S y4_2_10), (L 3 e_api_Attr y4_3_11), (L 6 e_api_Node y4_4_12), (S y4_5_13)]))]⟩) (.mk ⟨.same _, .same _, .same _, DLe.of_eq (congrArg D.agg (e_api_Node_c _).symm), trivial⟩ ⟨.same _, .same _, trivial⟩) ?_
        refine OpsOk.cons rfl (OpOk.to (σ2 := St.put ⟨_, (4, (.box true [(.v (.int .i64 t33.Kind)), (S t33.Name.Space), (S t33.Name.Local), (L 3 e_api_Attr t33.Attrs), (L 6 e_api_Node t33.Kids), (S t33.Text)])) :: _⟩ _ .junk) (.storeB rfl sz27 rfl rfl rfl rfl rfl) rfl) ?_
        refine OpsOk.cons rfl (.v (VOk.asg (d := (.v (.bool true))) rfl rfl) rfl) ?_
        exact .done (.mk ⟨.same _, .same _, trivial⟩ ⟨.same _, trivial⟩)
      refine Ok.le (σ' := ⟨[(4, (.bref 4 0)), (5, (.v (.bool true)))], [(4, (.box true [(.v (.int .i64 t33.Kind)), (S t33.Name.Space), (S t33.Name.Local), (L 3 e_api_Attr t33.Attrs), (L 6 e_api_Node t33.Kids), (S t33.Text)]))]⟩) (.mk ⟨.same _, .same _, trivial⟩ ⟨.same _, trivial⟩) ?_
      refine Ok.ret ?_
      obtain rfl := Option.some.inj H
      exact ⟨.inl rfl, ⟨_, (.cons (.cell (VOk.to (d' := (.agg (e_api_Node t33))) (.loadBAgg rfl Try.underlying27 rfl sz27 rfl rfl rfl) (congrArg D.agg (e_api_Node_c t33).symm))) (.cons (.tmp rfl) .nil)), rfl⟩, trivial⟩

end Go.Proofs.Ytldkgladombmcaa.Sh
