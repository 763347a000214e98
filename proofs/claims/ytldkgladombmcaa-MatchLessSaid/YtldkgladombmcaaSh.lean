import Derived.Test.YtldkgladombmcaaProg
import Derived.Test.YtldkgladombmcaaShb
namespace Go.Proofs.Ytldkgladombmcaa.Sh
open Go Go.RowKit Go.Proofs.Vx
set_option linter.unusedVariables false

set_option maxRecDepth 100000
set_option maxHeartbeats 1000000
/-! watchbill/watchbilllaw12.MatchFinds: function 3 -/
def watchbilllaw12_MatchFinds.l0 (k : Nat) (t12 : (List (List Int))) (t14 : (List (List Int))) : Nat → Int → Option Bool
  | 0, _ => none
  | m24 + 1, x11_22 => (if (decide (x11_22 < (t12.length : Int))) = true then (if (0 : Int) ≤ x11_22 ∧ x11_22 < (t12.length : Int) then (if (0 : Int) ≤ x11_22 ∧ x11_22 < (t14.length : Int) then ((watchbillref06_Same k (rd t12 x11_22) (rd t14 x11_22)).bind fun (t27 : Bool) => (if (!t27) = true then some false else watchbilllaw12_MatchFinds.l0 k t12 t14 m24 (IntKind.i64.wrap (x11_22 + 1)))) else none) else none) else some true)
def watchbilllaw12_MatchFinds (k : Nat) (a0 : T_api_Node) (a1 : List T_api_Step) (a2 : Int) (a3 : T_api_Step) : Option Bool := ((watchbilllaw12_awake k).bind fun (t1 : Bool) => (if (!t1) = true then some false else ((watchbilllaw04_Few k a0).bind fun (t3 : Bool) => (((if ((!t3) == false) = true then watchbilllaw10_Few k a1 else some default)).bind fun (t6 : Bool) => (if (((!t3) || (!t6)) || (decide ((a1.length : Int) > 30))) = true then some true else (if (([] : List T_api_Step).length + a1.length) * 112 ≤ 140737488355328 then ((match_Find k a0 (([] : List T_api_Step) ++ a1)).bind fun (t12 : (List (List Int))) => ((watchbillref12_Find k a0 a1).bind fun (t14 : (List (List Int))) => (((if (((t12.length : Int) != (t14.length : Int)) == false) = true then match_Fits k a0 a2 a3 else some default)).bind fun (t17 : Bool) => (((if (((t12.length : Int) != (t14.length : Int)) == false) = true then watchbillref12_Fits k a0 a2 a3 else some default)).bind fun (t19 : Bool) => (if (((t12.length : Int) != (t14.length : Int)) || (!(t17 == t19))) = true then some false else watchbilllaw12_MatchFinds.l0 k t12 t14 k 0))))) else none))))))
theorem watchbilllaw12_MatchFinds.ok {k : Nat} {a0 : T_api_Node} {a1 : List T_api_Step} {a2 : Int} {a3 : T_api_Step} {r : Bool} (H : watchbilllaw12_MatchFinds k a0 a1 a2 a3 = some r) : Vx.Fn Try.prog 3 [(.agg (e_api_Node a0)), (L 9 e_api_Step a1), (.v (.int .i64 a2)), (.agg (e_api_Step a3))] [] (.v (.bool r)) [] := by
  unfold watchbilllaw12_MatchFinds at H
  refine Vx.Fn.of_okR Try.func3 rfl (Nat.le_of_ble_eq_true rfl) ?_
  refine Ok.seq ?_
  refine Ok.region (σ' := ⟨[(1, (L 9 e_api_Step a1)), (2, (.v (.int .i64 a2))), (4, (.bref 4 0)), (7, (.bref 7 0))], [(4, (.box true [(.v (.int .i64 a0.Kind)), (S a0.Name.Space), (S a0.Name.Local), (L 3 e_api_Attr a0.Attrs), (L 6 e_api_Node a0.Kids), (S a0.Text)])), (7, (.box true [(.v (.int .i64 a3.Kind)), (.v (.bool a3.Any)), (S a3.Name.Space), (S a3.Name.Local), (.v (.int .i64 a3.Pos)), (.v (.bool a3.By)), (S a3.Attr.Space), (S a3.Attr.Local), (S a3.Value)]))]⟩) ?_ ?_
  · refine OpsOk.cut (σ := ⟨[(0, (.agg [(.v (.int .i64 a0.Kind)), (S a0.Name.Space), (S a0.Name.Local), (L 3 e_api_Attr a0.Attrs), (L 6 e_api_Node a0.Kids), (S a0.Text)])), (1, (L 9 e_api_Step a1)), (2, (.v (.int .i64 a2))), (3, (.agg (e_api_Step a3)))], []⟩) (.mk ⟨DLe.of_eq (congrArg D.agg (e_api_Node_c _).symm), .same _, .same _, .same _, trivial⟩ trivial) ?_
    refine OpsOk.cons rfl (OpOk.box 4 (cells := [(.v (.int .i64 a0.Kind)), (S a0.Name.Space), (S a0.Name.Local), (L 3 e_api_Attr a0.Attrs), (L 6 e_api_Node a0.Kids), (S a0.Text)]) rfl rfl rfl rfl) ?_
    refine OpsOk.cons rfl (OpOk.box 7 (cells := [(.v (.int .i64 a3.Kind)), (.v (.bool a3.Any)), (S a3.Name.Space), (S a3.Name.Local), (.v (.int .i64 a3.Pos)), (.v (.bool a3.By)), (S a3.Attr.Space), (S a3.Attr.Local), (S a3.Value)]) rfl rfl rfl rfl) ?_
    refine OpsOk.cons rfl (.v (VOk.asg (d := (.v (.bool false))) rfl rfl) rfl) ?_
    exact .done (.mk ⟨.same _, .same _, .same _, .same _, trivial⟩ ⟨.same _, .same _, trivial⟩)
  refine Ok.seq ?_
  refine Ok.seq ?_
  obtain ⟨t1, h2, H⟩ := bindE H
  refine Ok.region (σ' := ⟨[(1, (L 9 e_api_Step a1)), (2, (.v (.int .i64 a2))), (4, (.bref 4 0)), (7, (.bref 7 0)), (13, (.v (.bool (!t1))))], [(4, (.box true [(.v (.int .i64 a0.Kind)), (S a0.Name.Space), (S a0.Name.Local), (L 3 e_api_Attr a0.Attrs), (L 6 e_api_Node a0.Kids), (S a0.Text)])), (7, (.box true [(.v (.int .i64 a3.Kind)), (.v (.bool a3.Any)), (S a3.Name.Space), (S a3.Name.Local), (.v (.int .i64 a3.Pos)), (.v (.bool a3.By)), (S a3.Attr.Space), (S a3.Attr.Local), (S a3.Value)]))]⟩) ?_ ?_
  · refine OpsOk.cons rfl (.g (GOk.call rfl rfl cl7 rfl (watchbilllaw12_awake.ok h2) rfl) rfl) ?_
    refine OpsOk.cons rfl (.v (VOk.not (b := t1) rfl rfl) rfl) ?_
    exact .done (.mk ⟨.same _, .same _, .same _, .same _, .same _, trivial⟩ ⟨.same _, .same _, trivial⟩)
  refine Ok.test (b := (!t1)) rfl (fun hb33 => ?_) (fun hb33 => ?_)
  · replace H := ifT H hb33
    refine Ok.seq ?_
    refine Ok.region (σ' := ⟨[(8, (.v (.bool false)))], []⟩) ?_ ?_
    · refine OpsOk.cons rfl (.v (VOk.asg (d := (.v (.bool false))) rfl rfl) rfl) ?_
      exact .done (.mk ⟨.same _, trivial⟩ trivial)
    refine Ok.le (σ' := ⟨[(8, (.v (.bool false)))], []⟩) (.mk ⟨.same _, trivial⟩ trivial) ?_
    refine Ok.ret ?_
    obtain rfl := Option.some.inj H
    exact ⟨.inl rfl, ⟨_, (.cons (.tmp rfl) .nil), rfl⟩, trivial⟩
  · replace H := ifF H hb33
    refine Ok.le (σ' := ⟨[(1, (L 9 e_api_Step a1)), (2, (.v (.int .i64 a2))), (4, (.bref 4 0)), (7, (.bref 7 0))], [(4, (.box true [(.v (.int .i64 a0.Kind)), (S a0.Name.Space), (S a0.Name.Local), (L 3 e_api_Attr a0.Attrs), (L 6 e_api_Node a0.Kids), (S a0.Text)])), (7, (.box true [(.v (.int .i64 a3.Kind)), (.v (.bool a3.Any)), (S a3.Name.Space), (S a3.Name.Local), (.v (.int .i64 a3.Pos)), (.v (.bool a3.By)), (S a3.Attr.Space), (S a3.Attr.Local), (S a3.Value)]))]⟩) (.mk ⟨.same _, .same _, .same _, .same _, trivial⟩ ⟨.same _, .same _, trivial⟩) ?_
    refine Ok.skip ?_
    refine Ok.seq ?_
    refine Ok.seq ?_
    obtain ⟨t3, h4, H⟩ := bindE H
    obtain ⟨t6, h7, H⟩ := bindE H
    refine Ok.region (σ' := ⟨[(1, (L 9 e_api_Step a1)), (2, (.v (.int .i64 a2))), (4, (.bref 4 0)), (7, (.bref 7 0)), (26, (.v (.bool (((!t3) || (!t6)) || (decide ((a1.length : Int) > 30))))))], [(4, (.box true [(.v (.int .i64 a0.Kind)), (S a0.Name.Space), (S a0.Name.Local), (L 3 e_api_Attr a0.Attrs), (L 6 e_api_Node a0.Kids), (S a0.Text)])), (7, (.box true [(.v (.int .i64 a3.Kind)), (.v (.bool a3.Any)), (S a3.Name.Space), (S a3.Name.Local), (.v (.int .i64 a3.Pos)), (.v (.bool a3.By)), (S a3.Attr.Space), (S a3.Attr.Local), (S a3.Value)]))]⟩) ?_ ?_
    · refine OpsOk.cons rfl (.v (VOk.to (d' := (.agg (e_api_Node a0))) (.loadBAgg rfl Try.underlying27 rfl sz27 rfl rfl rfl) (congrArg D.agg (e_api_Node_c a0).symm)) rfl) ?_
      refine OpsOk.cons rfl (.g (GOk.call rfl rfl cl8 rfl (watchbilllaw04_Few.ok h4) rfl) rfl) ?_
      refine OpsOk.cons rfl (.v (VOk.not (b := t3) rfl rfl) rfl) ?_
      refine OpsOk.cons rfl (.v (VOk.mv (d := (.v (.bool (!t3)))) rfl rfl) rfl) ?_
      refine OpsOk.consI rfl rfl rfl (.one rfl) rfl (fun hw5 => (VOk.g (VOk.mv (d := (L 9 e_api_Step a1)) rfl rfl))) ?_
      refine OpsOk.consI rfl rfl rfl (.one rfl) rfl (fun hw5 => (GOk.fr (fr' := [(18, (L 9 e_api_Step a1))]) ⟨DLe.of_eq (cT hw5).symm, trivial⟩ (GOk.call rfl rfl cl9 rfl (watchbilllaw10_Few.ok (ifT h7 hw5)) rfl))) ?_
      refine OpsOk.consI rfl rfl rfl (.one rfl) rfl (fun hw5 => (GOk.fr (fr' := [(19, (.v (.bool t6)))]) ⟨DLe.of_eq (cT hw5).symm, trivial⟩ (VOk.g (VOk.not (b := t6) rfl rfl)))) ?_
      refine OpsOk.cons rfl (.v (VOk.to (VOk.pickI (b := (!t3)) (p := true) (q := (!t6)) rfl rfl (fun hp8 => rfl) (fun hp8 => (cT (f_beq hp8)))) (pickOr (!t3) (!t6))) rfl) ?_
      refine OpsOk.cons rfl (.v (VOk.mv (d := (.v (.bool ((!t3) || (!t6))))) rfl rfl) rfl) ?_
      refine OpsOk.consI rfl rfl rfl (.one rfl) rfl (fun hw9 => (VOk.g (VOk.mv (d := (L 9 e_api_Step a1)) rfl rfl))) ?_
      refine OpsOk.consI rfl rfl rfl (.one rfl) rfl (fun hw9 => (GOk.fr (fr' := [(23, (L 9 e_api_Step a1))]) ⟨DLe.of_eq (cT hw9).symm, trivial⟩ (VOk.g (VOk.lenL (e := e_api_Step) (xs := a1) rfl Try.underlying28 rfl)))) ?_
      refine OpsOk.consI rfl rfl rfl (.one rfl) rfl (fun hw9 => (GOk.fr (fr' := [(24, (.v (.int .i64 (a1.length : Int))))]) ⟨DLe.of_eq (cT hw9).symm, trivial⟩ (VOk.g (VOk.arith (op := .gtr) (k := .i64) (a := (a1.length : Int)) (b := 30) rfl rfl rfl rfl)))) ?_
      refine OpsOk.cons rfl (.v (VOk.to (VOk.pickI (b := ((!t3) || (!t6))) (p := true) (q := (decide ((a1.length : Int) > 30))) rfl rfl (fun hp10 => rfl) (fun hp10 => (cT (f_beq hp10)))) (pickOr ((!t3) || (!t6)) (decide ((a1.length : Int) > 30)))) rfl) ?_
      exact .done (.mk ⟨.same _, .same _, .same _, .same _, .same _, trivial⟩ ⟨.same _, .same _, trivial⟩)
    refine Ok.test (b := (((!t3) || (!t6)) || (decide ((a1.length : Int) > 30)))) rfl (fun hb32 => ?_) (fun hb32 => ?_)
    · replace H := ifT H hb32
      refine Ok.seq ?_
      refine Ok.region (σ' := ⟨[(8, (.v (.bool true)))], []⟩) ?_ ?_
      · refine OpsOk.cons rfl (.v (VOk.asg (d := (.v (.bool true))) rfl rfl) rfl) ?_
        exact .done (.mk ⟨.same _, trivial⟩ trivial)
      refine Ok.le (σ' := ⟨[(8, (.v (.bool true)))], []⟩) (.mk ⟨.same _, trivial⟩ trivial) ?_
      refine Ok.ret ?_
      obtain rfl := Option.some.inj H
      exact ⟨.inl rfl, ⟨_, (.cons (.tmp rfl) .nil), rfl⟩, trivial⟩
    · replace H := ifF H hb32
      refine Ok.le (σ' := ⟨[(1, (L 9 e_api_Step a1)), (2, (.v (.int .i64 a2))), (4, (.bref 4 0)), (7, (.bref 7 0))], [(4, (.box true [(.v (.int .i64 a0.Kind)), (S a0.Name.Space), (S a0.Name.Local), (L 3 e_api_Attr a0.Attrs), (L 6 e_api_Node a0.Kids), (S a0.Text)])), (7, (.box true [(.v (.int .i64 a3.Kind)), (.v (.bool a3.Any)), (S a3.Name.Space), (S a3.Name.Local), (.v (.int .i64 a3.Pos)), (.v (.bool a3.By)), (S a3.Attr.Space), (S a3.Attr.Local), (S a3.Value)]))]⟩) (.mk ⟨.same _, .same _, .same _, .same _, trivial⟩ ⟨.same _, .same _, trivial⟩) ?_
      refine Ok.skip ?_
      refine Ok.seq ?_
      obtain ⟨c11, H⟩ := assertE H
      obtain ⟨t12, h13, H⟩ := bindE H
      obtain ⟨t14, h15, H⟩ := bindE H
      refine Ok.drawE (σ' := ⟨[(2, (.v (.int .i64 a2))), (4, (.bref 4 0)), (7, (.bref 7 0)), (9, (L 1 (eL 1 (eI .i64)) t12)), (10, (L 1 (eL 1 (eI .i64)) t14))], [(4, (.box true [(.v (.int .i64 a0.Kind)), (S a0.Name.Space), (S a0.Name.Local), (L 3 e_api_Attr a0.Attrs), (L 6 e_api_Node a0.Kids), (S a0.Text)])), (7, (.box true [(.v (.int .i64 a3.Kind)), (.v (.bool a3.Any)), (S a3.Name.Space), (S a3.Name.Local), (.v (.int .i64 a3.Pos)), (.v (.bool a3.By)), (S a3.Attr.Space), (S a3.Attr.Local), (S a3.Value)]))]⟩) [⟨true, [(4, (.bref 4 0))], (.agg (e_api_Node a0))⟩, ⟨true, [], (.clist 9 (List.map e_api_Step ([] : List T_api_Step)))⟩, ⟨true, [(1, (L 9 e_api_Step a1))], (L 9 e_api_Step a1)⟩, ⟨true, [(28, (.clist 9 (List.map e_api_Step ([] : List T_api_Step)))), (29, (L 9 e_api_Step a1))], (L 9 e_api_Step (([] : List T_api_Step) ++ a1))⟩, ⟨true, [(27, (.agg (e_api_Node a0))), (30, (L 9 e_api_Step (([] : List T_api_Step) ++ a1)))], (L 1 (eL 1 (eI .i64)) t12)⟩, ⟨true, [(4, (.bref 4 0))], (.agg (e_api_Node a0))⟩, ⟨true, [(1, (L 9 e_api_Step a1))], (L 9 e_api_Step a1)⟩, ⟨true, [(32, (.agg (e_api_Node a0))), (33, (L 9 e_api_Step a1))], (L 1 (eL 1 (eI .i64)) t14)⟩, ⟨true, [(31, (L 1 (eL 1 (eI .i64)) t12))], (L 1 (eL 1 (eI .i64)) t12)⟩, ⟨true, [(34, (L 1 (eL 1 (eI .i64)) t14))], (L 1 (eL 1 (eI .i64)) t14)⟩] [[], [], [], [1, 2], [0, 3], [], [], [5, 6], [4], [7]] mixed (by kernel_rfl) ?_ ?_
      · refine TxtE.cons rfl ⟨.same _, trivial⟩ rfl (VOk.g (VOk.to (d' := (.agg (e_api_Node a0))) (.loadBAgg rfl Try.underlying27 rfl sz27 rfl rfl rfl) (congrArg D.agg (e_api_Node_c a0).symm))) ?_
        refine TxtE.cons rfl trivial rfl (GOk.to (d' := (.clist 9 (List.map e_api_Step ([] : List T_api_Step)))) (GOk.litC rfl Try.underlying28 sz30 zs30 rfl rfl rfl rfl) rfl) ?_
        refine TxtE.cons rfl ⟨.same _, trivial⟩ rfl (VOk.g (VOk.mv (d := (L 9 e_api_Step a1)) rfl rfl)) ?_
        refine TxtE.cons rfl ⟨.same _, .same _, trivial⟩ rfl (GOk.appendC (e := e_api_Step) (xs := ([] : List T_api_Step)) (ys := a1) rfl Try.underlying28 elt30 (.same _) rfl c11) ?_
        refine TxtE.cons rfl ⟨.same _, .same _, trivial⟩ rfl (GOk.call rfl rfl cl10 rfl (match_Find.ok h13) rfl) ?_
        refine TxtE.cons rfl ⟨.same _, trivial⟩ rfl (VOk.g (VOk.to (d' := (.agg (e_api_Node a0))) (.loadBAgg rfl Try.underlying27 rfl sz27 rfl rfl rfl) (congrArg D.agg (e_api_Node_c a0).symm))) ?_
        refine TxtE.cons rfl ⟨.same _, trivial⟩ rfl (VOk.g (VOk.mv (d := (L 9 e_api_Step a1)) rfl rfl)) ?_
        refine TxtE.cons rfl ⟨.same _, .same _, trivial⟩ rfl (GOk.call rfl rfl cl11 rfl (watchbillref12_Find.ok h15) rfl) ?_
        refine TxtE.cons rfl ⟨.same _, trivial⟩ rfl (VOk.g (VOk.asg (d := (L 1 (eL 1 (eI .i64)) t12)) rfl rfl)) ?_
        refine TxtE.cons rfl ⟨.same _, trivial⟩ rfl (VOk.g (VOk.asg (d := (L 1 (eL 1 (eI .i64)) t14)) rfl rfl)) ?_
        exact .done (.mk ⟨.same _, .same _, .same _, .same _, .same _, trivial⟩ ⟨.same _, .same _, trivial⟩)
      refine Ok.seq ?_
      refine Ok.seq ?_
      obtain ⟨t17, h18, H⟩ := bindE H
      obtain ⟨t19, h20, H⟩ := bindE H
      refine Ok.drawE (σ' := ⟨[(9, (L 1 (eL 1 (eI .i64)) t12)), (10, (L 1 (eL 1 (eI .i64)) t14)), (50, (.v (.bool (((t12.length : Int) != (t14.length : Int)) || (!(t17 == t19))))))], []⟩) [⟨true, [(9, (L 1 (eL 1 (eI .i64)) t12))], (L 1 (eL 1 (eI .i64)) t12)⟩, ⟨true, [(35, (L 1 (eL 1 (eI .i64)) t12))], (.v (.int .i64 (t12.length : Int)))⟩, ⟨true, [(10, (L 1 (eL 1 (eI .i64)) t14))], (L 1 (eL 1 (eI .i64)) t14)⟩, ⟨true, [(37, (L 1 (eL 1 (eI .i64)) t14))], (.v (.int .i64 (t14.length : Int)))⟩, ⟨true, [(36, (.v (.int .i64 (t12.length : Int)))), (38, (.v (.int .i64 (t14.length : Int))))], (.v (.bool ((t12.length : Int) != (t14.length : Int))))⟩, ⟨true, [(39, (.v (.bool ((t12.length : Int) != (t14.length : Int)))))], (.v (.bool ((t12.length : Int) != (t14.length : Int))))⟩, It.I (((t12.length : Int) != (t14.length : Int)) == false) [(4, (.bref 4 0)), (40, (.v (.bool ((t12.length : Int) != (t14.length : Int)))))] (.agg (e_api_Node a0)), It.I (((t12.length : Int) != (t14.length : Int)) == false) [(2, (.v (.int .i64 a2))), (40, (.v (.bool ((t12.length : Int) != (t14.length : Int)))))] (.v (.int .i64 a2)), It.I (((t12.length : Int) != (t14.length : Int)) == false) [(7, (.bref 7 0)), (40, (.v (.bool ((t12.length : Int) != (t14.length : Int)))))] (.agg (e_api_Step a3)), It.I (((t12.length : Int) != (t14.length : Int)) == false) [(41, (bif (((t12.length : Int) != (t14.length : Int)) == false) then (.agg (e_api_Node a0)) else .v undef)), (42, (bif (((t12.length : Int) != (t14.length : Int)) == false) then (.v (.int .i64 a2)) else .v undef)), (43, (bif (((t12.length : Int) != (t14.length : Int)) == false) then (.agg (e_api_Step a3)) else .v undef)), (40, (.v (.bool ((t12.length : Int) != (t14.length : Int)))))] (.v (.bool t17)), It.I (((t12.length : Int) != (t14.length : Int)) == false) [(4, (.bref 4 0)), (40, (.v (.bool ((t12.length : Int) != (t14.length : Int)))))] (.agg (e_api_Node a0)), It.I (((t12.length : Int) != (t14.length : Int)) == false) [(2, (.v (.int .i64 a2))), (40, (.v (.bool ((t12.length : Int) != (t14.length : Int)))))] (.v (.int .i64 a2)), It.I (((t12.length : Int) != (t14.length : Int)) == false) [(7, (.bref 7 0)), (40, (.v (.bool ((t12.length : Int) != (t14.length : Int)))))] (.agg (e_api_Step a3)), It.I (((t12.length : Int) != (t14.length : Int)) == false) [(45, (bif (((t12.length : Int) != (t14.length : Int)) == false) then (.agg (e_api_Node a0)) else .v undef)), (46, (bif (((t12.length : Int) != (t14.length : Int)) == false) then (.v (.int .i64 a2)) else .v undef)), (47, (bif (((t12.length : Int) != (t14.length : Int)) == false) then (.agg (e_api_Step a3)) else .v undef)), (40, (.v (.bool ((t12.length : Int) != (t14.length : Int)))))] (.v (.bool t19)), It.I (((t12.length : Int) != (t14.length : Int)) == false) [(44, (bif (((t12.length : Int) != (t14.length : Int)) == false) then (.v (.bool t17)) else .v undef)), (48, (bif (((t12.length : Int) != (t14.length : Int)) == false) then (.v (.bool t19)) else .v undef)), (40, (.v (.bool ((t12.length : Int) != (t14.length : Int)))))] (.v (.bool (!(t17 == t19)))), ⟨true, [(40, (.v (.bool ((t12.length : Int) != (t14.length : Int))))), (49, (bif (((t12.length : Int) != (t14.length : Int)) == false) then (.v (.bool (!(t17 == t19)))) else .v undef))], (.v (.bool (((t12.length : Int) != (t14.length : Int)) || (!(t17 == t19)))))⟩] [[], [0], [], [2], [1, 3], [4], [5], [5], [5], [5, 6, 7, 8], [5], [5], [5], [5, 10, 11, 12], [5, 9, 13], [5, 14]] mixed (by kernel_rfl) ?_ ?_
      · refine TxtE.cons rfl ⟨.same _, trivial⟩ rfl (VOk.g (VOk.mv (d := (L 1 (eL 1 (eI .i64)) t12)) rfl rfl)) ?_
        refine TxtE.cons rfl ⟨.same _, trivial⟩ rfl (VOk.g (VOk.lenL (e := (eL 1 (eI .i64))) (xs := t12) rfl Try.underlying34 rfl)) ?_
        refine TxtE.cons rfl ⟨.same _, trivial⟩ rfl (VOk.g (VOk.mv (d := (L 1 (eL 1 (eI .i64)) t14)) rfl rfl)) ?_
        refine TxtE.cons rfl ⟨.same _, trivial⟩ rfl (VOk.g (VOk.lenL (e := (eL 1 (eI .i64))) (xs := t14) rfl Try.underlying34 rfl)) ?_
        refine TxtE.cons rfl ⟨.same _, .same _, trivial⟩ rfl (VOk.g (VOk.arith (op := .neq) (k := .i64) (a := (t12.length : Int)) (b := (t14.length : Int)) rfl rfl rfl rfl)) ?_
        refine TxtE.cons rfl ⟨.same _, trivial⟩ rfl (VOk.g (VOk.mv (d := (.v (.bool ((t12.length : Int) != (t14.length : Int))))) rfl rfl)) ?_
        refine TxtE.consI rfl ⟨.same _, .same _, trivial⟩ rfl rfl (.one rfl) (fun hw16 => (VOk.g (VOk.to (d' := (.agg (e_api_Node a0))) (.loadBAgg rfl Try.underlying27 rfl sz27 rfl rfl rfl) (congrArg D.agg (e_api_Node_c a0).symm)))) ?_
        refine TxtE.consI rfl ⟨.same _, .same _, trivial⟩ rfl rfl (.one rfl) (fun hw16 => (VOk.g (VOk.mv (d := (.v (.int .i64 a2))) rfl rfl))) ?_
        refine TxtE.consI rfl ⟨.same _, .same _, trivial⟩ rfl rfl (.one rfl) (fun hw16 => (VOk.g (VOk.to (d' := (.agg (e_api_Step a3))) (.loadBAgg rfl Try.underlying30 rfl sz30 rfl rfl rfl) rfl))) ?_
        refine TxtE.consI rfl ⟨.same _, .same _, .same _, .same _, trivial⟩ rfl rfl (.one rfl) (fun hw16 => (GOk.fr (fr' := [(41, (.agg (e_api_Node a0))), (42, (.v (.int .i64 a2))), (43, (.agg (e_api_Step a3)))]) ⟨DLe.of_eq (cT hw16).symm, DLe.of_eq (cT hw16).symm, DLe.of_eq (cT hw16).symm, trivial⟩ (GOk.call rfl rfl cl12 rfl (match_Fits.ok (ifT h18 hw16)) rfl))) ?_
        refine TxtE.consI rfl ⟨.same _, .same _, trivial⟩ rfl rfl (.one rfl) (fun hw16 => (VOk.g (VOk.to (d' := (.agg (e_api_Node a0))) (.loadBAgg rfl Try.underlying27 rfl sz27 rfl rfl rfl) (congrArg D.agg (e_api_Node_c a0).symm)))) ?_
        refine TxtE.consI rfl ⟨.same _, .same _, trivial⟩ rfl rfl (.one rfl) (fun hw16 => (VOk.g (VOk.mv (d := (.v (.int .i64 a2))) rfl rfl))) ?_
        refine TxtE.consI rfl ⟨.same _, .same _, trivial⟩ rfl rfl (.one rfl) (fun hw16 => (VOk.g (VOk.to (d' := (.agg (e_api_Step a3))) (.loadBAgg rfl Try.underlying30 rfl sz30 rfl rfl rfl) rfl))) ?_
        refine TxtE.consI rfl ⟨.same _, .same _, .same _, .same _, trivial⟩ rfl rfl (.one rfl) (fun hw16 => (GOk.fr (fr' := [(45, (.agg (e_api_Node a0))), (46, (.v (.int .i64 a2))), (47, (.agg (e_api_Step a3)))]) ⟨DLe.of_eq (cT hw16).symm, DLe.of_eq (cT hw16).symm, DLe.of_eq (cT hw16).symm, trivial⟩ (GOk.call rfl rfl cl13 rfl (watchbillref12_Fits.ok (ifT h20 hw16)) rfl))) ?_
        refine TxtE.consI rfl ⟨.same _, .same _, .same _, trivial⟩ rfl rfl (.one rfl) (fun hw16 => (GOk.fr (fr' := [(44, (.v (.bool t17))), (48, (.v (.bool t19)))]) ⟨DLe.of_eq (cT hw16).symm, DLe.of_eq (cT hw16).symm, trivial⟩ (VOk.g (VOk.eqB (op := .neq) (p := t17) (q := t19) rfl (.inr rfl) Try.underlying4 rfl rfl)))) ?_
        refine TxtE.cons rfl ⟨.same _, .same _, trivial⟩ rfl (VOk.g (VOk.to (VOk.pickI (b := ((t12.length : Int) != (t14.length : Int))) (p := true) (q := (!(t17 == t19))) rfl rfl (fun hp21 => rfl) (fun hp21 => (cT (f_beq hp21)))) (pickOr ((t12.length : Int) != (t14.length : Int)) (!(t17 == t19))))) ?_
        exact .done (.mk ⟨.same _, .same _, .same _, trivial⟩ trivial)
      refine Ok.test (b := (((t12.length : Int) != (t14.length : Int)) || (!(t17 == t19)))) rfl (fun hb31 => ?_) (fun hb31 => ?_)
      · replace H := ifT H hb31
        refine Ok.seq ?_
        refine Ok.region (σ' := ⟨[(8, (.v (.bool false)))], []⟩) ?_ ?_
        · refine OpsOk.cons rfl (.v (VOk.asg (d := (.v (.bool false))) rfl rfl) rfl) ?_
          exact .done (.mk ⟨.same _, trivial⟩ trivial)
        refine Ok.le (σ' := ⟨[(8, (.v (.bool false)))], []⟩) (.mk ⟨.same _, trivial⟩ trivial) ?_
        refine Ok.ret ?_
        obtain rfl := Option.some.inj H
        exact ⟨.inl rfl, ⟨_, (.cons (.tmp rfl) .nil), rfl⟩, trivial⟩
      · replace H := ifF H hb31
        refine Ok.le (σ' := ⟨[(9, (L 1 (eL 1 (eI .i64)) t12)), (10, (L 1 (eL 1 (eI .i64)) t14))], []⟩) (.mk ⟨.same _, .same _, trivial⟩ trivial) ?_
        refine Ok.skip ?_
        refine Ok.seq ?_
        refine Ok.seq ?_
        refine Ok.region (σ' := ⟨[(9, (L 1 (eL 1 (eI .i64)) t12)), (10, (L 1 (eL 1 (eI .i64)) t14)), (11, (.v (.int .i64 0)))], []⟩) ?_ ?_
        · refine OpsOk.cons rfl (.v (VOk.asg (d := (.v (.int .i64 0))) rfl rfl) rfl) ?_
          exact .done (.mk ⟨.same _, .same _, .same _, trivial⟩ trivial)
        refine Ok.block ?_
        refine Ok.le (σ' := ⟨[(9, (L 1 (eL 1 (eI .i64)) t12)), (10, (L 1 (eL 1 (eI .i64)) t14)), (11, (.v (.int .i64 0)))], []⟩) (.mk ⟨.same _, .same _, .same _, trivial⟩ trivial) ?_
        refine Ok.loop (fun m24 σ => ∃ (x11_22 : Int), σ = ⟨[(9, (L 1 (eL 1 (eI .i64)) t12)), (10, (L 1 (eL 1 (eI .i64)) t14)), (11, (.v (.int .i64 x11_22)))], []⟩ ∧ watchbilllaw12_MatchFinds.l0 k t12 t14 m24 x11_22 = some r) k ⟨0, rfl, H⟩ ?_
        rintro m24 σ ⟨x11_22, rfl, H⟩
        cases m24 with
        | zero => exact absurd H (by simp [watchbilllaw12_MatchFinds.l0])
        | succ m24 =>
          unfold watchbilllaw12_MatchFinds.l0 at H
          refine Ok.seq ?_
          refine Ok.seq ?_
          refine Ok.region (σ' := ⟨[(9, (L 1 (eL 1 (eI .i64)) t12)), (10, (L 1 (eL 1 (eI .i64)) t14)), (11, (.v (.int .i64 x11_22))), (54, (.v (.bool (decide (x11_22 < (t12.length : Int))))))], []⟩) ?_ ?_
          · refine OpsOk.cons rfl (.v (VOk.mv (d := (.v (.int .i64 x11_22))) rfl rfl) rfl) ?_
            refine OpsOk.cons rfl (.v (VOk.mv (d := (L 1 (eL 1 (eI .i64)) t12)) rfl rfl) rfl) ?_
            refine OpsOk.cons rfl (.v (VOk.lenL (e := (eL 1 (eI .i64))) (xs := t12) rfl Try.underlying34 rfl) rfl) ?_
            refine OpsOk.cons rfl (.v (VOk.arith (op := .lss) (k := .i64) (a := x11_22) (b := (t12.length : Int)) rfl rfl rfl rfl) rfl) ?_
            exact .done (.mk ⟨.same _, .same _, .same _, .same _, trivial⟩ trivial)
          refine Ok.test (b := (decide (x11_22 < (t12.length : Int)))) rfl (fun hb30 => ?_) (fun hb30 => ?_)
          · replace H := ifT H hb30
            refine Ok.le (σ' := ⟨[(9, (L 1 (eL 1 (eI .i64)) t12)), (10, (L 1 (eL 1 (eI .i64)) t14)), (11, (.v (.int .i64 x11_22)))], []⟩) (.mk ⟨.same _, .same _, .same _, trivial⟩ trivial) ?_
            refine Ok.skip ?_
            refine Ok.seq ?_
            refine Ok.block ?_
            refine Ok.seq ?_
            obtain ⟨c25, H⟩ := assertE H
            obtain ⟨c26, H⟩ := assertE H
            obtain ⟨t27, h28, H⟩ := bindE H
            refine Ok.drawE (σ' := ⟨[(9, (L 1 (eL 1 (eI .i64)) t12)), (10, (L 1 (eL 1 (eI .i64)) t14)), (11, (.v (.int .i64 x11_22))), (66, (.v (.bool (!t27))))], []⟩) [⟨true, [(9, (L 1 (eL 1 (eI .i64)) t12))], (L 1 (eL 1 (eI .i64)) t12)⟩, ⟨true, [(11, (.v (.int .i64 x11_22)))], (.v (.int .i64 x11_22))⟩, ⟨true, [(57, (L 1 (eL 1 (eI .i64)) t12)), (58, (.v (.int .i64 x11_22)))], (.fp ((eL 1 (eI .i64)) (rd t12 x11_22)) 0)⟩, ⟨true, [(59, (.fp ((eL 1 (eI .i64)) (rd t12 x11_22)) 0))], (L 1 (eI .i64) (rd t12 x11_22))⟩, ⟨true, [(10, (L 1 (eL 1 (eI .i64)) t14))], (L 1 (eL 1 (eI .i64)) t14)⟩, ⟨true, [(11, (.v (.int .i64 x11_22)))], (.v (.int .i64 x11_22))⟩, ⟨true, [(61, (L 1 (eL 1 (eI .i64)) t14)), (62, (.v (.int .i64 x11_22)))], (.fp ((eL 1 (eI .i64)) (rd t14 x11_22)) 0)⟩, ⟨true, [(63, (.fp ((eL 1 (eI .i64)) (rd t14 x11_22)) 0))], (L 1 (eI .i64) (rd t14 x11_22))⟩, ⟨true, [(60, (L 1 (eI .i64) (rd t12 x11_22))), (64, (L 1 (eI .i64) (rd t14 x11_22)))], (.v (.bool t27))⟩, ⟨true, [(65, (.v (.bool t27)))], (.v (.bool (!t27)))⟩] [[], [], [0, 1], [2], [], [], [4, 5], [6], [3, 7], [8]] mixed (by kernel_rfl) ?_ ?_
            · refine TxtE.cons rfl ⟨.same _, trivial⟩ rfl (VOk.g (VOk.mv (d := (L 1 (eL 1 (eI .i64)) t12)) rfl rfl)) ?_
              refine TxtE.cons rfl ⟨.same _, trivial⟩ rfl (VOk.g (VOk.mv (d := (.v (.int .i64 x11_22))) rfl rfl)) ?_
              refine TxtE.cons rfl ⟨.same _, .same _, trivial⟩ rfl (VOk.g (VOk.indexL (sz := 1) (e := (eL 1 (eI .i64))) (xs := t12) (i := x11_22) rfl Try.underlying34 sz39 rfl rfl c25)) ?_
              refine TxtE.cons rfl ⟨.same _, trivial⟩ rfl (VOk.g (VOk.loadFp (d := (L 1 (eI .i64) (rd t12 x11_22))) rfl Try.underlying39 rfl rfl rfl)) ?_
              refine TxtE.cons rfl ⟨.same _, trivial⟩ rfl (VOk.g (VOk.mv (d := (L 1 (eL 1 (eI .i64)) t14)) rfl rfl)) ?_
              refine TxtE.cons rfl ⟨.same _, trivial⟩ rfl (VOk.g (VOk.mv (d := (.v (.int .i64 x11_22))) rfl rfl)) ?_
              refine TxtE.cons rfl ⟨.same _, .same _, trivial⟩ rfl (VOk.g (VOk.indexL (sz := 1) (e := (eL 1 (eI .i64))) (xs := t14) (i := x11_22) rfl Try.underlying34 sz39 rfl rfl c26)) ?_
              refine TxtE.cons rfl ⟨.same _, trivial⟩ rfl (VOk.g (VOk.loadFp (d := (L 1 (eI .i64) (rd t14 x11_22))) rfl Try.underlying39 rfl rfl rfl)) ?_
              refine TxtE.cons rfl ⟨.same _, .same _, trivial⟩ rfl (GOk.call rfl rfl cl14 rfl (watchbillref06_Same.ok h28) rfl) ?_
              refine TxtE.cons rfl ⟨.same _, trivial⟩ rfl (VOk.g (VOk.not (b := t27) rfl rfl)) ?_
              exact .done (.mk ⟨.same _, .same _, .same _, .same _, trivial⟩ trivial)
            refine Ok.test (b := (!t27)) rfl (fun hb29 => ?_) (fun hb29 => ?_)
            · replace H := ifT H hb29
              refine Ok.seq ?_
              refine Ok.region (σ' := ⟨[(8, (.v (.bool false)))], []⟩) ?_ ?_
              · refine OpsOk.cons rfl (.v (VOk.asg (d := (.v (.bool false))) rfl rfl) rfl) ?_
                exact .done (.mk ⟨.same _, trivial⟩ trivial)
              refine Ok.le (σ' := ⟨[(8, (.v (.bool false)))], []⟩) (.mk ⟨.same _, trivial⟩ trivial) ?_
              refine Ok.ret ?_
              obtain rfl := Option.some.inj H
              exact ⟨.inl rfl, ⟨_, (.cons (.tmp rfl) .nil), rfl⟩, trivial⟩
            · replace H := ifF H hb29
              refine Ok.le (σ' := ⟨[(9, (L 1 (eL 1 (eI .i64)) t12)), (10, (L 1 (eL 1 (eI .i64)) t14)), (11, (.v (.int .i64 x11_22)))], []⟩) (.mk ⟨.same _, .same _, .same _, trivial⟩ trivial) ?_
              refine Ok.skip ?_
              refine Ok.region (σ' := ⟨[(9, (L 1 (eL 1 (eI .i64)) t12)), (10, (L 1 (eL 1 (eI .i64)) t14)), (11, (.v (.int .i64 (IntKind.i64.wrap (x11_22 + 1)))))], []⟩) ?_ ?_
              · refine OpsOk.cons rfl (.v (VOk.mv (d := (.v (.int .i64 x11_22))) rfl rfl) rfl) ?_
                refine OpsOk.cons rfl (.v (VOk.arith (op := .add) (k := .i64) (a := x11_22) (b := 1) rfl rfl rfl rfl) rfl) ?_
                refine OpsOk.cons rfl (.v (VOk.asg (d := (.v (.int .i64 (IntKind.i64.wrap (x11_22 + 1))))) rfl rfl) rfl) ?_
                exact .done (.mk ⟨.same _, .same _, .same _, trivial⟩ trivial)
              exact ⟨m24, Nat.lt_succ_self m24, (IntKind.i64.wrap (x11_22 + 1)), rfl, H⟩
          · replace H := ifF H hb30
            refine Ok.le (σ' := ⟨[], []⟩) (.mk trivial trivial) ?_
            refine Ok.exit ?_
            refine Ok.seq ?_
            refine Ok.region (σ' := ⟨[(8, (.v (.bool true)))], []⟩) ?_ ?_
            · refine OpsOk.cons rfl (.v (VOk.asg (d := (.v (.bool true))) rfl rfl) rfl) ?_
              exact .done (.mk ⟨.same _, trivial⟩ trivial)
            refine Ok.le (σ' := ⟨[(8, (.v (.bool true)))], []⟩) (.mk ⟨.same _, trivial⟩ trivial) ?_
            refine Ok.ret ?_
            obtain rfl := Option.some.inj H
            exact ⟨.inl rfl, ⟨_, (.cons (.tmp rfl) .nil), rfl⟩, trivial⟩

/-! watchbill/path.kid: function 37 -/
def path_kid (a0 : T_api_Node) (a1 : Int) : Option Bool := some ((decide (a1 ≥ 0)) && (decide (a1 < (a0.Kids.length : Int))))
theorem path_kid.ok {a0 : T_api_Node} {a1 : Int} {r : Bool} (H : path_kid a0 a1 = some r) : Vx.Fn Try.prog 37 [(.agg (e_api_Node a0)), (.v (.int .i64 a1))] [] (.v (.bool r)) [] := by
  unfold path_kid at H
  refine Vx.Fn.of_okR Try.func37 rfl (Nat.le_of_ble_eq_true rfl) ?_
  refine Ok.seq ?_
  refine Ok.region (σ' := ⟨[(1, (.v (.int .i64 a1))), (2, (.bref 2 0))], [(2, (.box true [(.v (.int .i64 a0.Kind)), (S a0.Name.Space), (S a0.Name.Local), (L 3 e_api_Attr a0.Attrs), (L 6 e_api_Node a0.Kids), (S a0.Text)]))]⟩) ?_ ?_
  · refine OpsOk.cut (σ := ⟨[(0, (.agg [(.v (.int .i64 a0.Kind)), (S a0.Name.Space), (S a0.Name.Local), (L 3 e_api_Attr a0.Attrs), (L 6 e_api_Node a0.Kids), (S a0.Text)])), (1, (.v (.int .i64 a1)))], []⟩) (.mk ⟨DLe.of_eq (congrArg D.agg (e_api_Node_c _).symm), .same _, trivial⟩ trivial) ?_
    refine OpsOk.cons rfl (OpOk.box 2 (cells := [(.v (.int .i64 a0.Kind)), (S a0.Name.Space), (S a0.Name.Local), (L 3 e_api_Attr a0.Attrs), (L 6 e_api_Node a0.Kids), (S a0.Text)]) rfl rfl rfl rfl) ?_
    refine OpsOk.cons rfl (.v (VOk.asg (d := (.v (.bool false))) rfl rfl) rfl) ?_
    exact .done (.mk ⟨.same _, .same _, trivial⟩ ⟨.same _, trivial⟩)
  refine Ok.seq ?_
  refine Ok.region (σ' := ⟨[(4, (.v (.bool ((decide (a1 ≥ 0)) && (decide (a1 < (a0.Kids.length : Int)))))))], []⟩) ?_ ?_
  · refine OpsOk.cons rfl (.v (VOk.mv (d := (.v (.int .i64 a1))) rfl rfl) rfl) ?_
    refine OpsOk.cons rfl (.v (VOk.arith (op := .geq) (k := .i64) (a := a1) (b := 0) rfl rfl rfl rfl) rfl) ?_
    refine OpsOk.cons rfl (.v (VOk.mv (d := (.v (.bool (decide (a1 ≥ 0))))) rfl rfl) rfl) ?_
    refine OpsOk.consI rfl rfl rfl (.one rfl) rfl (fun hw1 => (VOk.g (VOk.mv (d := (.v (.int .i64 a1))) rfl rfl))) ?_
    refine OpsOk.consI rfl rfl rfl (.one rfl) rfl (fun hw1 => (VOk.g (VOk.to (VOk.fieldB rfl Try.underlying27 rfl sz25 rfl rfl) rfl))) ?_
    refine OpsOk.consI rfl rfl rfl (.one rfl) rfl (fun hw1 => (GOk.fr (fr' := [(9, (.bref 2 4))]) ⟨DLe.of_eq (cT hw1).symm, trivial⟩ (VOk.g (VOk.loadB (d := (L 6 e_api_Node a0.Kids)) rfl Try.underlying25 rfl rfl rfl rfl)))) ?_
    refine OpsOk.consI rfl rfl rfl (.one rfl) rfl (fun hw1 => (GOk.fr (fr' := [(10, (L 6 e_api_Node a0.Kids))]) ⟨DLe.of_eq (cT hw1).symm, trivial⟩ (VOk.g (VOk.lenL (e := e_api_Node) (xs := a0.Kids) rfl Try.underlying25 rfl)))) ?_
    refine OpsOk.consI rfl rfl rfl (.one rfl) rfl (fun hw1 => (GOk.fr (fr' := [(8, (.v (.int .i64 a1))), (11, (.v (.int .i64 (a0.Kids.length : Int))))]) ⟨DLe.of_eq (cT hw1).symm, DLe.of_eq (cT hw1).symm, trivial⟩ (VOk.g (VOk.arith (op := .lss) (k := .i64) (a := a1) (b := (a0.Kids.length : Int)) rfl rfl rfl rfl)))) ?_
    refine OpsOk.cons rfl (.v (VOk.to (VOk.pickI (b := (decide (a1 ≥ 0))) (p := (decide (a1 < (a0.Kids.length : Int)))) (q := false) rfl rfl (fun hp2 => (cT (t_beq hp2))) (fun hp2 => rfl)) (pickAnd (decide (a1 ≥ 0)) (decide (a1 < (a0.Kids.length : Int))))) rfl) ?_
    refine OpsOk.cons rfl (.v (VOk.asg (d := (.v (.bool ((decide (a1 ≥ 0)) && (decide (a1 < (a0.Kids.length : Int))))))) rfl rfl) rfl) ?_
    exact .done (.mk ⟨.same _, trivial⟩ trivial)
  refine Ok.le (σ' := ⟨[(4, (.v (.bool ((decide (a1 ≥ 0)) && (decide (a1 < (a0.Kids.length : Int)))))))], []⟩) (.mk ⟨.same _, trivial⟩ trivial) ?_
  refine Ok.ret ?_
  obtain rfl := Option.some.inj H
  exact ⟨.inl rfl, ⟨_, (.cons (.tmp rfl) .nil), rfl⟩, trivial⟩

/-! slices.Clone[[]watchbill/api.Attr,watchbill/api.Attr]: function 44 -/
def slices_Clone_44 (a0 : List T_api_Attr) : Option (List T_api_Attr) := (if (([] : List T_api_Attr).length + a0.length) * 48 ≤ 140737488355328 then some (([] : List T_api_Attr) ++ a0) else none)
theorem slices_Clone_44.ok {a0 : List T_api_Attr} {r : (List T_api_Attr)} (H : slices_Clone_44 a0 = some r) : Vx.Fn Try.prog 44 [(L 3 e_api_Attr a0)] [] (L 3 e_api_Attr r) [] := by
  unfold slices_Clone_44 at H
  refine Vx.Fn.of_okR Try.func44 rfl (Nat.le_of_ble_eq_true rfl) ?_
  refine Ok.seq ?_
  refine Ok.region (σ' := ⟨[(0, (L 3 e_api_Attr a0))], []⟩) ?_ ?_
  · refine OpsOk.cons rfl (.v (VOk.asg (d := (.v (.slice none 0 0))) rfl rfl) rfl) ?_
    exact .done (.mk ⟨.same _, trivial⟩ trivial)
  refine Ok.seq ?_
  refine Ok.seq ?_
  refine Ok.regionB (X := fun b => b = true → a0 = []) (σ' := fun nb1 => ⟨[(0, (L 3 e_api_Attr a0)), (4, (.v (.bool nb1)))], []⟩) ?_ (fun nb1 hnb1 => ?_)
  · refine OpsB.cons rfl (.v (VOk.mv (d := (L 3 e_api_Attr a0)) rfl rfl) rfl) ?_
    exact .last rfl (BOk.eqNil (E := e_api_Attr) (xs := a0) rfl Try.underlying24 rfl) rfl (fun nb1 => (.mk ⟨.same _, .same _, trivial⟩ trivial))
  refine Ok.test (b := nb1) rfl (fun hb3 => ?_) (fun hb3 => ?_)
  · replace H : some ([] : List T_api_Attr) = some r := nilH (hnb1 hb3) H (fun h => by (try rw [h]); rfl)
    refine Ok.seq ?_
    refine Ok.region (σ' := ⟨[(2, (.v (.slice none 0 0)))], []⟩) ?_ ?_
    · refine OpsOk.cons rfl (.v (VOk.asg (d := (.v (.slice none 0 0))) rfl rfl) rfl) ?_
      exact .done (.mk ⟨.same _, trivial⟩ trivial)
    refine Ok.le (σ' := ⟨[(2, (L 3 e_api_Attr ([] : List T_api_Attr)))], []⟩) (.mk ⟨.nil _, trivial⟩ trivial) ?_
    refine Ok.ret ?_
    obtain rfl := Option.some.inj H
    exact ⟨.inl rfl, ⟨_, (.cons (.tmp rfl) .nil), rfl⟩, trivial⟩
  · refine Ok.le (σ' := ⟨[(0, (L 3 e_api_Attr a0))], []⟩) (.mk ⟨.same _, trivial⟩ trivial) ?_
    refine Ok.skip ?_
    refine Ok.seq ?_
    obtain ⟨c2, H⟩ := assertE H
    refine Ok.region (σ' := ⟨[(2, (L 3 e_api_Attr (([] : List T_api_Attr) ++ a0)))], []⟩) ?_ ?_
    · refine OpsOk.cons rfl (.g (GOk.to (d' := (.clist 3 (List.map e_api_Attr ([] : List T_api_Attr)))) (GOk.litC rfl Try.underlying24 sz56 zs56 rfl rfl rfl rfl) rfl) rfl) ?_
      refine OpsOk.cons rfl (.v (VOk.mv (d := (L 3 e_api_Attr a0)) rfl rfl) rfl) ?_
      refine OpsOk.cons rfl (.g (GOk.appendC (e := e_api_Attr) (xs := ([] : List T_api_Attr)) (ys := a0) rfl Try.underlying24 elt56 (.same _) rfl c2) rfl) ?_
      refine OpsOk.cons rfl (.v (VOk.asg (d := (L 3 e_api_Attr (([] : List T_api_Attr) ++ a0))) rfl rfl) rfl) ?_
      exact .done (.mk ⟨.same _, trivial⟩ trivial)
    refine Ok.le (σ' := ⟨[(2, (L 3 e_api_Attr (([] : List T_api_Attr) ++ a0)))], []⟩) (.mk ⟨.same _, trivial⟩ trivial) ?_
    refine Ok.ret ?_
    obtain rfl := Option.some.inj H
    exact ⟨.inl rfl, ⟨_, (.cons (.tmp rfl) .nil), rfl⟩, trivial⟩

/-! slices.Clone[[]watchbill/api.Node,watchbill/api.Node]: function 45 -/
def slices_Clone_45_o (a0 : List T_api_Node) : Option (List T_api_Node) := (if (([] : List T_api_Node).length + a0.length) * 104 ≤ 140737488355328 then some (([] : List T_api_Node) ++ a0) else none)
theorem slices_Clone_45_o.ok {a0 : List T_api_Node} {r : (List T_api_Node)} (H : slices_Clone_45_o a0 = some r) : Vx.Fn Try.prog 45 [(L 6 e_api_Node a0)] [] (.sref 0) [(0, .rows true 27 6 (List.map e_api_Node r))] := by
  unfold slices_Clone_45_o at H
  refine Vx.Fn.of_okO (t := 2) Try.func45 rfl (Nat.le_of_ble_eq_true rfl) rfl ?_
  refine Ok.seq ?_
  refine Ok.region (σ' := ⟨[(0, (L 6 e_api_Node a0))], []⟩) ?_ ?_
  · refine OpsOk.cons rfl (.nilT 2 27 6 (.inl rfl) rfl rfl) ?_
    exact .done (.mk ⟨.same _, trivial⟩ trivial)
  refine Ok.seq ?_
  refine Ok.seq ?_
  refine Ok.regionB (X := fun b => b = true → a0 = []) (σ' := fun nb1 => ⟨[(0, (L 6 e_api_Node a0)), (4, (.v (.bool nb1)))], []⟩) ?_ (fun nb1 hnb1 => ?_)
  · refine OpsB.cons rfl (.v (VOk.mv (d := (L 6 e_api_Node a0)) rfl rfl) rfl) ?_
    exact .last rfl (BOk.eqNil (E := e_api_Node) (xs := a0) rfl Try.underlying25 rfl) rfl (fun nb1 => (.mk ⟨.same _, .same _, trivial⟩ trivial))
  refine Ok.test (b := nb1) rfl (fun hb3 => ?_) (fun hb3 => ?_)
  · replace H : some ([] : List T_api_Node) = some r := nilH (hnb1 hb3) H (fun h => by (try rw [h]); rfl)
    refine Ok.seq ?_
    refine Ok.region (σ' := ⟨[(2, (.sref 2))], [(2, (.rows true 27 6 (([] : List T_api_Node).map e_api_Node)))]⟩) ?_ ?_
    · refine OpsOk.cons rfl (.nilT 2 27 6 (.inl rfl) rfl rfl) ?_
      exact .done (.mk ⟨.same _, trivial⟩ ⟨.same _, trivial⟩)
    refine Ok.le (σ' := ⟨[(2, (.sref 2))], [(2, (.rows true 27 6 (([] : List T_api_Node).map e_api_Node)))]⟩) (.mk ⟨.same _, trivial⟩ ⟨.same _, trivial⟩) ?_
    refine Ok.ret ?_
    obtain rfl := Option.some.inj H
    exact ⟨.inl rfl, 2, rfl, rfl⟩
  · refine Ok.le (σ' := ⟨[(0, (L 6 e_api_Node a0))], []⟩) (.mk ⟨.same _, trivial⟩ trivial) ?_
    refine Ok.skip ?_
    refine Ok.seq ?_
    obtain ⟨c2, H⟩ := assertE H
    refine Ok.region (σ' := ⟨[(2, (.sref 5))], [(5, (.rows true 27 6 ((([] : List T_api_Node) ++ a0).map e_api_Node)))]⟩) ?_ ?_
    · refine OpsOk.cons rfl (OpOk.litT 5 rfl rfl Try.underlying25 sz27 zs27 rfl (rows := ([] : List T_api_Node).map e_api_Node) rfl rfl rfl rfl) ?_
      refine OpsOk.cons rfl (.v (VOk.mv (d := (L 6 e_api_Node a0)) rfl rfl) rfl) ?_
      refine OpsOk.cons rfl (OpOk.appendL (e := e_api_Node) (xs := ([] : List T_api_Node)) (ys := a0) rfl Try.underlying25 elt27 rfl rfl rfl c2 rfl) ?_
      refine OpsOk.cons rfl (.v (VOk.asg (d := (.sref 5)) rfl rfl) rfl) ?_
      exact .done (.mk ⟨.same _, trivial⟩ ⟨.same _, trivial⟩)
    refine Ok.le (σ' := ⟨[(2, (.sref 5))], [(5, (.rows true 27 6 ((([] : List T_api_Node) ++ a0).map e_api_Node)))]⟩) (.mk ⟨.same _, trivial⟩ ⟨.same _, trivial⟩) ?_
    refine Ok.ret ?_
    obtain rfl := Option.some.inj H
    exact ⟨.inl rfl, 5, rfl, rfl⟩

/-! watchbill/tree.Copy: function 38 -/
def tree_Copy.l0 (k : Nat) (self : T_api_Node → Option T_api_Node) (t3 : List T_api_Node) : Nat → Int → Str → Str → List T_api_Attr → Str → Int → Str → Str → List T_api_Attr → List T_api_Node → Str → List T_api_Node → Int → Option T_api_Node
  | 0, _, _, _, _, _, _, _, _, _, _, _, _, _ => none
  | m31 + 1, y1_0_6, y1_1_7, y1_2_8, y1_3_9, y1_5_10, y2_0_11, y2_1_12, y2_2_13, y2_3_14, y2_4_15, y2_5_16, y10_17, x16_5 => (if (decide (x16_5 < (t3.length : Int))) = true then (if (0 : Int) ≤ x16_5 ∧ x16_5 < (y10_17.length : Int) then ((self (rd y10_17 x16_5)).bind fun (t33 : T_api_Node) => (if (0 : Int) ≤ x16_5 ∧ x16_5 < (y10_17.length : Int) then tree_Copy.l0 k self t3 m31 y1_0_6 y1_1_7 y1_2_8 y1_3_9 y1_5_10 y2_0_11 y2_1_12 y2_2_13 y2_3_14 y2_4_15 y2_5_16 (y10_17.set (Int.toNat x16_5) t33) (IntKind.i64.wrap (x16_5 + 1)) else none)) else none) else some (T_api_Node.mk y1_0_6 (T_api_Name.mk y1_1_7 y1_2_8) y1_3_9 y10_17 y1_5_10))
def tree_Copy : Nat → T_api_Node → Option T_api_Node
  | 0, _ => none
  | k + 1, a0 => ((slices_Clone_44 a0.Attrs).bind fun (t1 : (List T_api_Attr)) => ((slices_Clone_45_o a0.Kids).bind fun (t3 : List T_api_Node) => tree_Copy.l0 k (tree_Copy k) t3 k a0.Kind a0.Name.Space a0.Name.Local t1 a0.Text 0 ([] : Str) ([] : Str) ([] : List T_api_Attr) ([] : List T_api_Node) ([] : Str) t3 0))
theorem tree_Copy.ok {k : Nat} {a0 : T_api_Node} {r : T_api_Node} (H : tree_Copy k a0 = some r) : Vx.Fn Try.prog 38 [(.agg (e_api_Node a0))] [] (.agg (e_api_Node r)) [] := by
  induction k generalizing a0 r with
  | zero => exact absurd H (by simp [tree_Copy])
  | succ k ih =>
    unfold tree_Copy at H
    refine Vx.Fn.of_okR Try.func38 rfl (Nat.le_of_ble_eq_true rfl) ?_
    refine Ok.seq ?_
    refine Ok.region (σ' := ⟨[(1, (.bref 1 0)), (2, (.bref 2 0))], [(1, (.box true [(.v (.int .i64 a0.Kind)), (S a0.Name.Space), (S a0.Name.Local), (L 3 e_api_Attr a0.Attrs), (L 6 e_api_Node a0.Kids), (S a0.Text)])), (2, (.box true [(.v (.int .i64 0)), (S ([] : Str)), (S ([] : Str)), (L 3 e_api_Attr ([] : List T_api_Attr)), (L 6 e_api_Node ([] : List T_api_Node)), (S ([] : Str))]))]⟩) ?_ ?_
    · refine OpsOk.cut (σ := ⟨[(0, (.agg [(.v (.int .i64 a0.Kind)), (S a0.Name.Space), (S a0.Name.Local), (L 3 e_api_Attr a0.Attrs), (L 6 e_api_Node a0.Kids), (S a0.Text)]))], []⟩) (.mk ⟨DLe.of_eq (congrArg D.agg (e_api_Node_c _).symm), trivial⟩ trivial) ?_
      refine OpsOk.cons rfl (OpOk.box 1 (cells := [(.v (.int .i64 a0.Kind)), (S a0.Name.Space), (S a0.Name.Local), (L 3 e_api_Attr a0.Attrs), (L 6 e_api_Node a0.Kids), (S a0.Text)]) rfl rfl rfl rfl) ?_
      refine OpsOk.cons rfl (OpOk.alloc 2 [none, none, none, some 3, some 6, none] rfl zo27 rfl rfl) ?_
      exact .done (.mk ⟨.same _, .same _, trivial⟩ ⟨.same _, .same _, trivial⟩)
    refine Ok.seq ?_
    obtain ⟨t1, h2, H⟩ := bindE H
    obtain ⟨t3, h4, H⟩ := bindE H
    refine Ok.le (σ' := ⟨[(1, (.bref 1 0)), (2, (.bref 2 0))], [(1, (.box true [(.v (.int .i64 a0.Kind)), (S a0.Name.Space), (S a0.Name.Local), (L 3 e_api_Attr a0.Attrs), (L 6 e_api_Node a0.Kids), (S a0.Text)])), (2, (.box true [(.v (.int .i64 0)), (S ([] : Str)), (S ([] : Str)), (L 3 e_api_Attr ([] : List T_api_Attr)), (L 6 e_api_Node ([] : List T_api_Node)), (S ([] : Str))]))]⟩) (.mk ⟨.same _, .same _, trivial⟩ ⟨.same _, .same _, trivial⟩) ?_
    refine Ok.drawE2 (σ' := ⟨[(1, (.bref 1 0)), (2, (.bref 2 0))], [(1, (.box true [(.v (.int .i64 a0.Kind)), (S a0.Name.Space), (S a0.Name.Local), (L 3 e_api_Attr t1), (.sref 10), (S a0.Text)])), (2, (.box true [(.v (.int .i64 0)), (S ([] : Str)), (S ([] : Str)), (L 3 e_api_Attr ([] : List T_api_Attr)), (L 6 e_api_Node ([] : List T_api_Node)), (S ([] : Str))])), (10, (.rows true 27 6 (t3.map e_api_Node)))]⟩) [⟨true, [(1, (.bref 1 0))], [(1, (.box true [(.v (.int .i64 a0.Kind)), (S a0.Name.Space), (S a0.Name.Local), (L 3 e_api_Attr a0.Attrs), (L 6 e_api_Node a0.Kids), (S a0.Text)]))], (.bref 1 3), none, false⟩, ⟨true, [(5, (.bref 1 3))], [(1, (.box true [(.v (.int .i64 a0.Kind)), (S a0.Name.Space), (S a0.Name.Local), (L 3 e_api_Attr a0.Attrs), (L 6 e_api_Node a0.Kids), (S a0.Text)]))], (L 3 e_api_Attr a0.Attrs), none, false⟩, ⟨true, [(6, (L 3 e_api_Attr a0.Attrs))], [], (L 3 e_api_Attr t1), none, false⟩, ⟨true, [(1, (.bref 1 0))], [(1, (.box true [(.v (.int .i64 a0.Kind)), (S a0.Name.Space), (S a0.Name.Local), (L 3 e_api_Attr a0.Attrs), (L 6 e_api_Node a0.Kids), (S a0.Text)]))], (.bref 1 4), none, false⟩, ⟨true, [(8, (.bref 1 4))], [(1, (.box true [(.v (.int .i64 a0.Kind)), (S a0.Name.Space), (S a0.Name.Local), (L 3 e_api_Attr a0.Attrs), (L 6 e_api_Node a0.Kids), (S a0.Text)]))], (L 6 e_api_Node a0.Kids), none, false⟩, ⟨true, [(9, (L 6 e_api_Node a0.Kids))], [], (.sref 10), (some (10, (.rows true 27 6 (t3.map e_api_Node)))), true⟩, ⟨true, [(1, (.bref 1 0))], [(1, (.box true [(.v (.int .i64 a0.Kind)), (S a0.Name.Space), (S a0.Name.Local), (L 3 e_api_Attr a0.Attrs), (L 6 e_api_Node a0.Kids), (S a0.Text)]))], (.bref 1 3), none, false⟩, ⟨true, [(11, (.bref 1 3)), (7, (L 3 e_api_Attr t1))], [(1, (.box true [(.v (.int .i64 a0.Kind)), (S a0.Name.Space), (S a0.Name.Local), (L 3 e_api_Attr a0.Attrs), (L 6 e_api_Node a0.Kids), (S a0.Text)]))], .junk, (some (1, (.box true [(.v (.int .i64 a0.Kind)), (S a0.Name.Space), (S a0.Name.Local), (L 3 e_api_Attr t1), (L 6 e_api_Node a0.Kids), (S a0.Text)]))), false⟩, ⟨true, [(1, (.bref 1 0))], [(1, (.box true [(.v (.int .i64 a0.Kind)), (S a0.Name.Space), (S a0.Name.Local), (L 3 e_api_Attr t1), (L 6 e_api_Node a0.Kids), (S a0.Text)]))], (.bref 1 4), none, false⟩, ⟨true, [(12, (.bref 1 4)), (10, (.sref 10))], [(1, (.box true [(.v (.int .i64 a0.Kind)), (S a0.Name.Space), (S a0.Name.Local), (L 3 e_api_Attr t1), (L 6 e_api_Node a0.Kids), (S a0.Text)])), (10, (.rows true 27 6 (t3.map e_api_Node)))], .junk, (some (1, (.box true [(.v (.int .i64 a0.Kind)), (S a0.Name.Space), (S a0.Name.Local), (L 3 e_api_Attr t1), (.sref 10), (S a0.Text)]))), false⟩] [[], [0], [1], [], [3], [4], [], [0, 1, 2, 3, 4, 6], [7], [0, 1, 3, 4, 5, 6, 7, 8]] mixed (by kernel_rfl) ?_ ?_
    · refine TxtE2.cons ⟨.same _, trivial⟩ ⟨rfl, trivial⟩ (It2.val rfl rfl (fun T hT => (VOk.g (VOk.to (VOk.fieldB rfl Try.underlying27 rfl sz24 rfl hT.1) rfl)))) ?_
      refine TxtE2.cons ⟨.same _, trivial⟩ ⟨rfl, trivial⟩ (It2.val rfl rfl (fun T hT => (VOk.g (VOk.loadB (d := (L 3 e_api_Attr a0.Attrs)) rfl Try.underlying24 rfl rfl hT.1 rfl)))) ?_
      refine TxtE2.cons ⟨.same _, trivial⟩ trivial (It2.val rfl rfl (fun T hT => (GOk.call rfl rfl cl44 rfl (slices_Clone_44.ok h2) rfl))) ?_
      refine TxtE2.cons ⟨.same _, trivial⟩ ⟨rfl, trivial⟩ (It2.val rfl rfl (fun T hT => (VOk.g (VOk.to (VOk.fieldB rfl Try.underlying27 rfl sz25 rfl hT.1) rfl)))) ?_
      refine TxtE2.cons ⟨.same _, trivial⟩ ⟨rfl, trivial⟩ (It2.val rfl rfl (fun T hT => (VOk.g (VOk.loadB (d := (L 6 e_api_Node a0.Kids)) rfl Try.underlying25 rfl rfl hT.1 rfl)))) ?_
      refine TxtE2.cons ⟨.same _, trivial⟩ trivial (It2.callO 10 (rows := t3.map e_api_Node) rfl rfl rfl cl45 rfl (slices_Clone_45_o.ok h4) rfl) ?_
      refine TxtE2.cons ⟨.same _, trivial⟩ ⟨rfl, trivial⟩ (It2.val rfl rfl (fun T hT => (VOk.g (VOk.to (VOk.fieldB rfl Try.underlying27 rfl sz24 rfl hT.1) rfl)))) ?_
      refine TxtE2.cons ⟨.same _, .same _, trivial⟩ ⟨rfl, trivial⟩ (It2.store rfl rfl sz24 rfl rfl rfl rfl rfl rfl rfl) ?_
      refine TxtE2.cons ⟨.same _, trivial⟩ ⟨rfl, trivial⟩ (It2.val rfl rfl (fun T hT => (VOk.g (VOk.to (VOk.fieldB rfl Try.underlying27 rfl sz25 rfl hT.1) rfl)))) ?_
      refine TxtE2.cons ⟨.same _, .same _, trivial⟩ ⟨rfl, rfl, trivial⟩ (It2.store rfl rfl sz25 rfl rfl rfl rfl rfl rfl rfl) ?_
      exact .done (.mk ⟨.same _, .same _, trivial⟩ ⟨.same _, .same _, .same _, trivial⟩)
    refine Ok.seq ?_
    refine Ok.seq ?_
    refine Ok.region (σ' := ⟨[(1, (.bref 1 0)), (2, (.bref 2 0)), (14, (.sref 10)), (15, (.v (.int .i64 (t3.length : Int)))), (16, (.v (.int .i64 0)))], [(1, (.box true [(.v (.int .i64 a0.Kind)), (S a0.Name.Space), (S a0.Name.Local), (L 3 e_api_Attr t1), (.sref 10), (S a0.Text)])), (2, (.box true [(.v (.int .i64 0)), (S ([] : Str)), (S ([] : Str)), (L 3 e_api_Attr ([] : List T_api_Attr)), (L 6 e_api_Node ([] : List T_api_Node)), (S ([] : Str))])), (10, (.rows true 27 6 (t3.map e_api_Node)))]⟩) ?_ ?_
    · refine OpsOk.cons rfl (.v (VOk.to (VOk.fieldB rfl Try.underlying27 rfl sz25 rfl rfl) rfl) rfl) ?_
      refine OpsOk.cons rfl (.v (VOk.loadB (d := (.sref 10)) rfl Try.underlying25 rfl rfl rfl rfl) rfl) ?_
      refine OpsOk.cons rfl (.v (VOk.lenTL (e := e_api_Node) (xs := t3) rfl Try.underlying25 rfl rfl) rfl) ?_
      refine OpsOk.cons rfl (.v (VOk.mv (d := (.v (.int .i64 0))) rfl rfl) rfl) ?_
      exact .done (.mk ⟨.same _, .same _, .same _, .same _, .same _, trivial⟩ ⟨.same _, .same _, .same _, trivial⟩)
    refine Ok.block ?_
    refine Ok.le (σ' := ⟨[(1, (.bref 1 0)), (2, (.bref 2 0)), (14, (.sref 10)), (15, (.v (.int .i64 (t3.length : Int)))), (16, (.v (.int .i64 0)))], [(1, (.box true [(.v (.int .i64 a0.Kind)), (S a0.Name.Space), (S a0.Name.Local), (L 3 e_api_Attr t1), (.sref 10), (S a0.Text)])), (2, (.box true [(.v (.int .i64 0)), (S ([] : Str)), (S ([] : Str)), (L 3 e_api_Attr ([] : List T_api_Attr)), (L 6 e_api_Node ([] : List T_api_Node)), (S ([] : Str))])), (10, (.rows true 27 6 (t3.map e_api_Node)))]⟩) (.mk ⟨.same _, .same _, .same _, .same _, .same _, trivial⟩ ⟨.same _, .same _, .same _, trivial⟩) ?_
    refine Ok.loop (fun m31 σ => ∃ (y1_0_6 : Int) (y1_1_7 : Str) (y1_2_8 : Str) (y1_3_9 : List T_api_Attr) (y1_5_10 : Str) (y2_0_11 : Int) (y2_1_12 : Str) (y2_2_13 : Str) (y2_3_14 : List T_api_Attr) (y2_4_15 : List T_api_Node) (y2_5_16 : Str) (y10_17 : List T_api_Node) (x16_5 : Int), σ = ⟨[(1, (.bref 1 0)), (2, (.bref 2 0)), (14, (.sref 10)), (15, (.v (.int .i64 (t3.length : Int)))), (16, (.v (.int .i64 x16_5)))], [(1, (.box true [(.v (.int .i64 y1_0_6)), (S y1_1_7), (S y1_2_8), (L 3 e_api_Attr y1_3_9), (.sref 10), (S y1_5_10)])), (2, (.box true [(.v (.int .i64 y2_0_11)), (S y2_1_12), (S y2_2_13), (L 3 e_api_Attr y2_3_14), (L 6 e_api_Node y2_4_15), (S y2_5_16)])), (10, (.rows true 27 6 (y10_17.map e_api_Node)))]⟩ ∧ tree_Copy.l0 k (tree_Copy k) t3 m31 y1_0_6 y1_1_7 y1_2_8 y1_3_9 y1_5_10 y2_0_11 y2_1_12 y2_2_13 y2_3_14 y2_4_15 y2_5_16 y10_17 x16_5 = some r) k ⟨a0.Kind, a0.Name.Space, a0.Name.Local, t1, a0.Text, 0, ([] : Str), ([] : Str), ([] : List T_api_Attr), ([] : List T_api_Node), ([] : Str), t3, 0, rfl, H⟩ ?_
    rintro m31 σ ⟨y1_0_6, y1_1_7, y1_2_8, y1_3_9, y1_5_10, y2_0_11, y2_1_12, y2_2_13, y2_3_14, y2_4_15, y2_5_16, y10_17, x16_5, rfl, H⟩
    cases m31 with
    | zero => exact absurd H (by simp [tree_Copy.l0])
    | succ m31 =>
      unfold tree_Copy.l0 at H
      refine Ok.seq ?_
      refine Ok.region (σ' := ⟨[(1, (.bref 1 0)), (2, (.bref 2 0)), (14, (.sref 10)), (15, (.v (.int .i64 (t3.length : Int)))), (16, (.v (.int .i64 x16_5))), (17, (.v (.bool (decide (x16_5 < (t3.length : Int))))))], [(1, (.box true [(.v (.int .i64 y1_0_6)), (S y1_1_7), (S y1_2_8), (L 3 e_api_Attr y1_3_9), (.sref 10), (S y1_5_10)])), (2, (.box true [(.v (.int .i64 y2_0_11)), (S y2_1_12), (S y2_2_13), (L 3 e_api_Attr y2_3_14), (L 6 e_api_Node y2_4_15), (S y2_5_16)])), (10, (.rows true 27 6 (y10_17.map e_api_Node)))]⟩) ?_ ?_
      · refine OpsOk.cons rfl (.v (VOk.arith (op := .lss) (k := .i64) (a := x16_5) (b := (t3.length : Int)) rfl rfl rfl rfl) rfl) ?_
        exact .done (.mk ⟨.same _, .same _, .same _, .same _, .same _, .same _, trivial⟩ ⟨.same _, .same _, .same _, trivial⟩)
      refine Ok.seq ?_
      refine Ok.test (b := (decide (x16_5 < (t3.length : Int)))) rfl (fun hb36 => ?_) (fun hb36 => ?_)
      · replace H := ifT H hb36
        refine Ok.le (σ' := ⟨[(1, (.bref 1 0)), (2, (.bref 2 0)), (14, (.sref 10)), (15, (.v (.int .i64 (t3.length : Int)))), (16, (.v (.int .i64 x16_5)))], [(1, (.box true [(.v (.int .i64 y1_0_6)), (S y1_1_7), (S y1_2_8), (L 3 e_api_Attr y1_3_9), (.sref 10), (S y1_5_10)])), (2, (.box true [(.v (.int .i64 y2_0_11)), (S y2_1_12), (S y2_2_13), (L 3 e_api_Attr y2_3_14), (L 6 e_api_Node y2_4_15), (S y2_5_16)])), (10, (.rows true 27 6 (y10_17.map e_api_Node)))]⟩) (.mk ⟨.same _, .same _, .same _, .same _, .same _, trivial⟩ ⟨.same _, .same _, .same _, trivial⟩) ?_
        refine Ok.skip ?_
        refine Ok.seq ?_
        refine Ok.block ?_
        refine Ok.seq ?_
        obtain ⟨c32, H⟩ := assertE H
        refine Ok.region (σ' := ⟨[(1, (.bref 1 0)), (2, (.bref 2 0)), (3, (.v (.int .i64 x16_5))), (4, (.bref 4 0)), (14, (.sref 10)), (15, (.v (.int .i64 (t3.length : Int)))), (16, (.v (.int .i64 x16_5)))], [(1, (.box true [(.v (.int .i64 y1_0_6)), (S y1_1_7), (S y1_2_8), (L 3 e_api_Attr y1_3_9), (.sref 10), (S y1_5_10)])), (2, (.box true [(.v (.int .i64 y2_0_11)), (S y2_1_12), (S y2_2_13), (L 3 e_api_Attr y2_3_14), (L 6 e_api_Node y2_4_15), (S y2_5_16)])), (4, (.box true [(.v (.int .i64 ((rd y10_17 x16_5).Kind))), (S ((rd y10_17 x16_5).Name.Space)), (S ((rd y10_17 x16_5).Name.Local)), (L 3 e_api_Attr ((rd y10_17 x16_5).Attrs)), (L 6 e_api_Node ((rd y10_17 x16_5).Kids)), (S ((rd y10_17 x16_5).Text))])), (10, (.rows true 27 6 (y10_17.map e_api_Node)))]⟩) ?_ ?_
        · refine OpsOk.cons rfl (.v (VOk.mv (d := (.v (.int .i64 x16_5))) rfl rfl) rfl) ?_
          refine OpsOk.cons rfl (.v (VOk.indexTL (e := e_api_Node) (xs := y10_17) (i := x16_5) rfl Try.underlying25 sz27 rfl rfl rfl c32) rfl) ?_
          refine OpsOk.cons rfl (.v (VOk.to (d' := (.agg (e_api_Node (rd y10_17 x16_5)))) (.loadEAgg rfl Try.underlying27 rfl sz27 rfl rfl (row_rd c32) rfl) rfl) rfl) ?_
          refine OpsOk.cons rfl (OpOk.alloc 4 [none, none, none, some 3, some 6, none] rfl zo27 rfl rfl) ?_
          refine OpsOk.cons rfl (.v (VOk.asg (d := (.v (.int .i64 x16_5))) rfl rfl) rfl) ?_
          refine OpsOk.cut (σ := ⟨[(1, (.bref 1 0)), (2, (.bref 2 0)), (3, (.v (.int .i64 x16_5))), (4, (.bref 4 0)), (14, (.sref 10)), (15, (.v (.int .i64 (t3.length : Int)))), (16, (.v (.int .i64 x16_5))), (18, (.v (.int .i64 x16_5))), (19, (.eref 10 (Int.toNat x16_5) 0)), (20, (.agg [(.v (.int .i64 ((rd y10_17 x16_5).Kind))), (S ((rd y10_17 x16_5).Name.Space)), (S ((rd y10_17 x16_5).Name.Local)), (L 3 e_api_Attr ((rd y10_17 x16_5).Attrs)), (L 6 e_api_Node ((rd y10_17 x16_5).Kids)), (S ((rd y10_17 x16_5).Text))]))], [(1, (.box true [(.v (.int .i64 y1_0_6)), (S y1_1_7), (S y1_2_8), (L 3 e_api_Attr y1_3_9), (.sref 10), (S y1_5_10)])), (2, (.box true [(.v (.int .i64 y2_0_11)), (S y2_1_12), (S y2_2_13), (L 3 e_api_Attr y2_3_14), (L 6 e_api_Node y2_4_15), (S y2_5_16)])), (4, (.box true [(.v (.int .i64 0)), (S ([] : Str)), (S ([] : Str)), (L 3 e_api_Attr ([] : List T_api_Attr)), (L 6 e_api_Node ([] : List T_api_Node)), (S ([] : Str))])), (10, (.rows true 27 6 (y10_17.map e_api_Node)))]⟩) (.mk ⟨.same _, .same _, .same _, .same _, .same _, .same _, .same _, .same _, .same _, DLe.of_eq (congrArg D.agg (e_api_Node_c _).symm), trivial⟩ ⟨.same _, .same _, .same _, .same _, trivial⟩) ?_
          refine OpsOk.cons rfl (OpOk.to (σ2 := St.put ⟨_, (4, (.box true [(.v (.int .i64 ((rd y10_17 x16_5).Kind))), (S ((rd y10_17 x16_5).Name.Space)), (S ((rd y10_17 x16_5).Name.Local)), (L 3 e_api_Attr ((rd y10_17 x16_5).Attrs)), (L 6 e_api_Node ((rd y10_17 x16_5).Kids)), (S ((rd y10_17 x16_5).Text))])) :: _⟩ _ .junk) (.storeB rfl sz27 rfl rfl rfl rfl rfl) rfl) ?_
          exact .done (.mk ⟨.same _, .same _, .same _, .same _, .same _, .same _, .same _, trivial⟩ ⟨.same _, .same _, .same _, .same _, trivial⟩)
        obtain ⟨t33, h34, H⟩ := bindE H
        obtain ⟨c35, H⟩ := assertE H
        refine Ok.le (σ' := ⟨[(1, (.bref 1 0)), (2, (.bref 2 0)), (3, (.v (.int .i64 x16_5))), (4, (.bref 4 0)), (14, (.sref 10)), (15, (.v (.int .i64 (t3.length : Int)))), (16, (.v (.int .i64 x16_5)))], [(1, (.box true [(.v (.int .i64 y1_0_6)), (S y1_1_7), (S y1_2_8), (L 3 e_api_Attr y1_3_9), (.sref 10), (S y1_5_10)])), (2, (.box true [(.v (.int .i64 y2_0_11)), (S y2_1_12), (S y2_2_13), (L 3 e_api_Attr y2_3_14), (L 6 e_api_Node y2_4_15), (S y2_5_16)])), (4, (.box true [(.v (.int .i64 ((rd y10_17 x16_5).Kind))), (S ((rd y10_17 x16_5).Name.Space)), (S ((rd y10_17 x16_5).Name.Local)), (L 3 e_api_Attr ((rd y10_17 x16_5).Attrs)), (L 6 e_api_Node ((rd y10_17 x16_5).Kids)), (S ((rd y10_17 x16_5).Text))])), (10, (.rows true 27 6 (y10_17.map e_api_Node)))]⟩) (.mk ⟨.same _, .same _, .same _, .same _, .same _, .same _, .same _, trivial⟩ ⟨.same _, .same _, .same _, .same _, trivial⟩) ?_
        refine Ok.drawE2 (σ' := ⟨[(1, (.bref 1 0)), (2, (.bref 2 0)), (14, (.sref 10)), (15, (.v (.int .i64 (t3.length : Int)))), (16, (.v (.int .i64 x16_5)))], [(1, (.box true [(.v (.int .i64 y1_0_6)), (S y1_1_7), (S y1_2_8), (L 3 e_api_Attr y1_3_9), (.sref 10), (S y1_5_10)])), (2, (.box true [(.v (.int .i64 y2_0_11)), (S y2_1_12), (S y2_2_13), (L 3 e_api_Attr y2_3_14), (L 6 e_api_Node y2_4_15), (S y2_5_16)])), (10, (.rows true 27 6 ((y10_17.set (Int.toNat x16_5) t33).map e_api_Node)))]⟩) [⟨true, [(1, (.bref 1 0))], [(1, (.box true [(.v (.int .i64 y1_0_6)), (S y1_1_7), (S y1_2_8), (L 3 e_api_Attr y1_3_9), (.sref 10), (S y1_5_10)]))], (.bref 1 4), none, false⟩, ⟨true, [(21, (.bref 1 4))], [(1, (.box true [(.v (.int .i64 y1_0_6)), (S y1_1_7), (S y1_2_8), (L 3 e_api_Attr y1_3_9), (.sref 10), (S y1_5_10)]))], (.sref 10), none, false⟩, ⟨true, [(3, (.v (.int .i64 x16_5)))], [], (.v (.int .i64 x16_5)), none, false⟩, ⟨true, [(4, (.bref 4 0))], [(4, (.box true [(.v (.int .i64 ((rd y10_17 x16_5).Kind))), (S ((rd y10_17 x16_5).Name.Space)), (S ((rd y10_17 x16_5).Name.Local)), (L 3 e_api_Attr ((rd y10_17 x16_5).Attrs)), (L 6 e_api_Node ((rd y10_17 x16_5).Kids)), (S ((rd y10_17 x16_5).Text))]))], (.agg (e_api_Node (rd y10_17 x16_5))), none, false⟩, ⟨true, [(24, (.agg (e_api_Node (rd y10_17 x16_5))))], [], (.agg (e_api_Node t33)), none, false⟩, ⟨true, [(22, (.sref 10)), (23, (.v (.int .i64 x16_5)))], [(10, (.rows true 27 6 (y10_17.map e_api_Node)))], (.eref 10 (Int.toNat x16_5) 0), none, false⟩, ⟨true, [(26, (.eref 10 (Int.toNat x16_5) 0)), (25, (.agg (e_api_Node t33)))], [(10, (.rows true 27 6 (y10_17.map e_api_Node)))], .junk, (some (10, (.rows true 27 6 ((y10_17.set (Int.toNat x16_5) t33).map e_api_Node)))), false⟩] [[], [0], [], [], [3], [1, 2], [4, 5]] mixed (by kernel_rfl) ?_ ?_
        · refine TxtE2.cons ⟨.same _, trivial⟩ ⟨rfl, trivial⟩ (It2.val rfl rfl (fun T hT => (VOk.g (VOk.to (VOk.fieldB rfl Try.underlying27 rfl sz25 rfl hT.1) rfl)))) ?_
          refine TxtE2.cons ⟨.same _, trivial⟩ ⟨rfl, trivial⟩ (It2.val rfl rfl (fun T hT => (VOk.g (VOk.loadB (d := (.sref 10)) rfl Try.underlying25 rfl rfl hT.1 rfl)))) ?_
          refine TxtE2.cons ⟨.same _, trivial⟩ trivial (It2.val rfl rfl (fun T hT => (VOk.g (VOk.mv (d := (.v (.int .i64 x16_5))) rfl rfl)))) ?_
          refine TxtE2.cons ⟨.same _, trivial⟩ ⟨rfl, trivial⟩ (It2.val rfl rfl (fun T hT => (VOk.g (VOk.to (d' := (.agg (e_api_Node (rd y10_17 x16_5)))) (.loadBAgg rfl Try.underlying27 rfl sz27 rfl hT.1 rfl) (congrArg D.agg (e_api_Node_c (rd y10_17 x16_5)).symm))))) ?_
          refine TxtE2.cons ⟨.same _, trivial⟩ trivial (It2.val rfl rfl (fun T hT => (GOk.call rfl rfl cl38 rfl (@ih _ _ h34) rfl))) ?_
          refine TxtE2.cons ⟨.same _, .same _, trivial⟩ ⟨rfl, trivial⟩ (It2.val rfl rfl (fun T hT => (VOk.g (VOk.indexTL (e := e_api_Node) (xs := y10_17) (i := x16_5) rfl Try.underlying25 sz27 rfl hT.1 rfl c35)))) ?_
          refine TxtE2.cons ⟨.same _, .same _, trivial⟩ ⟨rfl, trivial⟩ (It2.storeEL (e := e_api_Node) (xs := y10_17) (i := x16_5) (y := t33) rfl rfl sz27 rfl rfl rfl c35 rfl rfl rfl rfl rfl rfl) ?_
          exact .done (.mk ⟨.same _, .same _, .same _, .same _, .same _, trivial⟩ ⟨.same _, .same _, .same _, trivial⟩)
        refine Ok.region (σ' := ⟨[(1, (.bref 1 0)), (2, (.bref 2 0)), (14, (.sref 10)), (15, (.v (.int .i64 (t3.length : Int)))), (16, (.v (.int .i64 (IntKind.i64.wrap (x16_5 + 1)))))], [(1, (.box true [(.v (.int .i64 y1_0_6)), (S y1_1_7), (S y1_2_8), (L 3 e_api_Attr y1_3_9), (.sref 10), (S y1_5_10)])), (2, (.box true [(.v (.int .i64 y2_0_11)), (S y2_1_12), (S y2_2_13), (L 3 e_api_Attr y2_3_14), (L 6 e_api_Node y2_4_15), (S y2_5_16)])), (10, (.rows true 27 6 ((y10_17.set (Int.toNat x16_5) t33).map e_api_Node)))]⟩) ?_ ?_
        · refine OpsOk.cons rfl (.v (VOk.arith (op := .add) (k := .i64) (a := x16_5) (b := 1) rfl rfl rfl rfl) rfl) ?_
          refine OpsOk.cons rfl (.v (VOk.mv (d := (.v (.int .i64 (IntKind.i64.wrap (x16_5 + 1))))) rfl rfl) rfl) ?_
          exact .done (.mk ⟨.same _, .same _, .same _, .same _, .same _, trivial⟩ ⟨.same _, .same _, .same _, trivial⟩)
        exact ⟨m31, Nat.lt_succ_self m31, y1_0_6, y1_1_7, y1_2_8, y1_3_9, y1_5_10, y2_0_11, y2_1_12, y2_2_13, y2_3_14, y2_4_15, y2_5_16, (y10_17.set (Int.toNat x16_5) t33), (IntKind.i64.wrap (x16_5 + 1)), rfl, H⟩
      · replace H := ifF H hb36
        refine Ok.le (σ' := ⟨[(1, (.bref 1 0)), (2, (.bref 2 0))], [(1, (.box true [(.v (.int .i64 y1_0_6)), (S y1_1_7), (S y1_2_8), (L 3 e_api_Attr y1_3_9), (.sref 10), (S y1_5_10)])), (2, (.box true [(.v (.int .i64 y2_0_11)), (S y2_1_12), (S y2_2_13), (L 3 e_api_Attr y2_3_14), (L 6 e_api_Node y2_4_15), (S y2_5_16)])), (10, (.rows true 27 6 (y10_17.map e_api_Node)))]⟩) (.mk ⟨.same _, .same _, trivial⟩ ⟨.same _, .same _, .same _, trivial⟩) ?_
        refine Ok.exit ?_
        refine Ok.seq ?_
        refine Ok.region (σ' := ⟨[(2, (.bref 2 0))], [(2, (.box true [(.v (.int .i64 ((T_api_Node.mk y1_0_6 (T_api_Name.mk y1_1_7 y1_2_8) y1_3_9 y10_17 y1_5_10).Kind))), (S ((T_api_Node.mk y1_0_6 (T_api_Name.mk y1_1_7 y1_2_8) y1_3_9 y10_17 y1_5_10).Name.Space)), (S ((T_api_Node.mk y1_0_6 (T_api_Name.mk y1_1_7 y1_2_8) y1_3_9 y10_17 y1_5_10).Name.Local)), (L 3 e_api_Attr ((T_api_Node.mk y1_0_6 (T_api_Name.mk y1_1_7 y1_2_8) y1_3_9 y10_17 y1_5_10).Attrs)), (L 6 e_api_Node ((T_api_Node.mk y1_0_6 (T_api_Name.mk y1_1_7 y1_2_8) y1_3_9 y10_17 y1_5_10).Kids)), (S ((T_api_Node.mk y1_0_6 (T_api_Name.mk y1_1_7 y1_2_8) y1_3_9 y10_17 y1_5_10).Text))]))]⟩) ?_ ?_
        · refine OpsOk.frzL 10 (e := e_api_Node) (xs := y10_17) rfl ?_
          refine OpsOk.cons rfl (.v (VOk.to (d' := (.agg (e_api_Node (T_api_Node.mk y1_0_6 (T_api_Name.mk y1_1_7 y1_2_8) y1_3_9 y10_17 y1_5_10)))) (.loadBAgg rfl Try.underlying27 rfl sz27 rfl rfl rfl) (congrArg D.agg (e_api_Node_c (T_api_Node.mk y1_0_6 (T_api_Name.mk y1_1_7 y1_2_8) y1_3_9 y10_17 y1_5_10)).symm)) rfl) ?_
          refine OpsOk.cut (σ := ⟨[(1, (.bref 1 0)), (2, (.bref 2 0)), (28, (.agg [(.v (.int .i64 ((T_api_Node.mk y1_0_6 (T_api_Name.mk y1_1_7 y1_2_8) y1_3_9 y10_17 y1_5_10).Kind))), (S ((T_api_Node.mk y1_0_6 (T_api_Name.mk y1_1_7 y1_2_8) y1_3_9 y10_17 y1_5_10).Name.Space)), (S ((T_api_Node.mk y1_0_6 (T_api_Name.mk y1_1_7 y1_2_8) y1_3_9 y10_17 y1_5_10).Name.Local)), (L 3 e_api_Attr ((T_api_Node.mk y1_0_6 (T_api_Name.mk y1_1_7 y1_2_8) y1_3_9 y10_17 y1_5_10).Attrs)), (L 6 e_api_Node ((T_api_Node.mk y1_0_6 (T_api_Name.mk y1_1_7 y1_2_8) y1_3_9 y10_17 y1_5_10).Kids)), (S ((T_api_Node.mk y1_0_6 (T_api_Name.mk y1_1_7 y1_2_8) y1_3_9 y10_17 y1_5_10).Text))]))], [(1, (.box true [(.v (.int .i64 y1_0_6)), (S y1_1_7), (S y1_2_8), (L 3 e_api_Attr y1_3_9), (L 6 e_api_Node y10_17), (S y1_5_10)])), (2, (.box true [(.v (.int .i64 y2_0_11)), (S y2_1_12), (S y2_2_13), (L 3 e_api_Attr y2_3_14), (L 6 e_api_Node y2_4_15), (S y2_5_16)]))]⟩) (.mk ⟨.same _, .same _, DLe.of_eq (congrArg D.agg (e_api_Node_c _).symm), trivial⟩ ⟨.same _, .same _, trivial⟩) ?_
          refine OpsOk.cons rfl (OpOk.to (σ2 := St.put ⟨_, (2, (.box true [(.v (.int .i64 ((T_api_Node.mk y1_0_6 (T_api_Name.mk y1_1_7 y1_2_8) y1_3_9 y10_17 y1_5_10).Kind))), (S ((T_api_Node.mk y1_0_6 (T_api_Name.mk y1_1_7 y1_2_8) y1_3_9 y10_17 y1_5_10).Name.Space)), (S ((T_api_Node.mk y1_0_6 (T_api_Name.mk y1_1_7 y1_2_8) y1_3_9 y10_17 y1_5_10).Name.Local)), (L 3 e_api_Attr ((T_api_Node.mk y1_0_6 (T_api_Name.mk y1_1_7 y1_2_8) y1_3_9 y10_17 y1_5_10).Attrs)), (L 6 e_api_Node ((T_api_Node.mk y1_0_6 (T_api_Name.mk y1_1_7 y1_2_8) y1_3_9 y10_17 y1_5_10).Kids)), (S ((T_api_Node.mk y1_0_6 (T_api_Name.mk y1_1_7 y1_2_8) y1_3_9 y10_17 y1_5_10).Text))])) :: _⟩ _ .junk) (.storeB rfl sz27 rfl rfl rfl rfl rfl) rfl) ?_
          exact .done (.mk ⟨.same _, trivial⟩ ⟨.same _, trivial⟩)
        refine Ok.le (σ' := ⟨[(2, (.bref 2 0))], [(2, (.box true [(.v (.int .i64 ((T_api_Node.mk y1_0_6 (T_api_Name.mk y1_1_7 y1_2_8) y1_3_9 y10_17 y1_5_10).Kind))), (S ((T_api_Node.mk y1_0_6 (T_api_Name.mk y1_1_7 y1_2_8) y1_3_9 y10_17 y1_5_10).Name.Space)), (S ((T_api_Node.mk y1_0_6 (T_api_Name.mk y1_1_7 y1_2_8) y1_3_9 y10_17 y1_5_10).Name.Local)), (L 3 e_api_Attr ((T_api_Node.mk y1_0_6 (T_api_Name.mk y1_1_7 y1_2_8) y1_3_9 y10_17 y1_5_10).Attrs)), (L 6 e_api_Node ((T_api_Node.mk y1_0_6 (T_api_Name.mk y1_1_7 y1_2_8) y1_3_9 y10_17 y1_5_10).Kids)), (S ((T_api_Node.mk y1_0_6 (T_api_Name.mk y1_1_7 y1_2_8) y1_3_9 y10_17 y1_5_10).Text))]))]⟩) (.mk ⟨.same _, trivial⟩ ⟨.same _, trivial⟩) ?_
        refine Ok.ret ?_
        obtain rfl := Option.some.inj H
        exact ⟨.inl rfl, ⟨_, (.cons (.cell (VOk.to (d' := (.agg (e_api_Node (T_api_Node.mk y1_0_6 (T_api_Name.mk y1_1_7 y1_2_8) y1_3_9 y10_17 y1_5_10)))) (.loadBAgg rfl Try.underlying27 rfl sz27 rfl rfl rfl) (congrArg D.agg (e_api_Node_c (T_api_Node.mk y1_0_6 (T_api_Name.mk y1_1_7 y1_2_8) y1_3_9 y10_17 y1_5_10)).symm))) .nil), rfl⟩, trivial⟩

/-! watchbill/path.At: function 20 -/
def path_At.l0 (k : Nat) (a1 : List Int) : Nat → Int → Str → Str → List T_api_Attr → List T_api_Node → Str → Int → Str → Str → List T_api_Attr → List T_api_Node → Str → Int → Option (T_api_Node × Bool)
  | 0, _, _, _, _, _, _, _, _, _, _, _, _, _ => none
  | m27 + 1, y2_0_2, y2_1_3, y2_2_4, y2_3_5, y2_4_6, y2_5_7, y4_0_8, y4_1_9, y4_2_10, y4_3_11, y4_4_12, y4_5_13, x10_1 => (if (decide (x10_1 < (a1.length : Int))) = true then (if (0 : Int) ≤ x10_1 ∧ x10_1 < (a1.length : Int) then ((path_kid (T_api_Node.mk y2_0_2 (T_api_Name.mk y2_1_3 y2_2_4) y2_3_5 y2_4_6 y2_5_7) (rd a1 x10_1)).bind fun (t29 : Bool) => (if (!t29) = true then some ((T_api_Node.mk 0 (T_api_Name.mk ([] : Str) ([] : Str)) ([] : List T_api_Attr) ([] : List T_api_Node) ([] : Str)), false) else (if (0 : Int) ≤ (rd a1 x10_1) ∧ (rd a1 x10_1) < (y2_4_6.length : Int) then path_At.l0 k a1 m27 ((rd y2_4_6 (rd a1 x10_1)).Kind) ((rd y2_4_6 (rd a1 x10_1)).Name.Space) ((rd y2_4_6 (rd a1 x10_1)).Name.Local) ((rd y2_4_6 (rd a1 x10_1)).Attrs) ((rd y2_4_6 (rd a1 x10_1)).Kids) ((rd y2_4_6 (rd a1 x10_1)).Text) y4_0_8 y4_1_9 y4_2_10 y4_3_11 y4_4_12 y4_5_13 (IntKind.i64.wrap (x10_1 + 1)) else none))) else none) else ((tree_Copy k (T_api_Node.mk y2_0_2 (T_api_Name.mk y2_1_3 y2_2_4) y2_3_5 y2_4_6 y2_5_7)).bind fun (t33 : T_api_Node) => some (t33, true)))
def path_At (k : Nat) (a0 : T_api_Node) (a1 : List Int) : Option (T_api_Node × Bool) := path_At.l0 k a1 k a0.Kind a0.Name.Space a0.Name.Local a0.Attrs a0.Kids a0.Text 0 ([] : Str) ([] : Str) ([] : List T_api_Attr) ([] : List T_api_Node) ([] : Str) 0
theorem path_At.ok {k : Nat} {a0 : T_api_Node} {a1 : List Int} {r : T_api_Node × Bool} (H : path_At k a0 a1 = some r) : Vx.Fn Try.prog 20 [(.agg (e_api_Node a0)), (L 1 (eI .i64) a1)] [] (.tup [(.agg (e_api_Node r.1)), (.v (.bool r.2))]) [] := by
  unfold path_At at H
  refine Vx.Fn.of_okR Try.func20 rfl (Nat.le_of_ble_eq_true rfl) ?_
  refine Ok.seq ?_
  refine Ok.region (σ' := ⟨[(1, (L 1 (eI .i64) a1)), (2, (.bref 2 0)), (4, (.bref 4 0))], [(2, (.box true [(.v (.int .i64 a0.Kind)), (S a0.Name.Space), (S a0.Name.Local), (L 3 e_api_Attr a0.Attrs), (L 6 e_api_Node a0.Kids), (S a0.Text)])), (4, (.box true [(.v (.int .i64 0)), (S ([] : Str)), (S ([] : Str)), (L 3 e_api_Attr ([] : List T_api_Attr)), (L 6 e_api_Node ([] : List T_api_Node)), (S ([] : Str))]))]⟩) ?_ ?_
  · refine OpsOk.cut (σ := ⟨[(0, (.agg [(.v (.int .i64 a0.Kind)), (S a0.Name.Space), (S a0.Name.Local), (L 3 e_api_Attr a0.Attrs), (L 6 e_api_Node a0.Kids), (S a0.Text)])), (1, (L 1 (eI .i64) a1))], []⟩) (.mk ⟨DLe.of_eq (congrArg D.agg (e_api_Node_c _).symm), .same _, trivial⟩ trivial) ?_
    refine OpsOk.cons rfl (OpOk.box 2 (cells := [(.v (.int .i64 a0.Kind)), (S a0.Name.Space), (S a0.Name.Local), (L 3 e_api_Attr a0.Attrs), (L 6 e_api_Node a0.Kids), (S a0.Text)]) rfl rfl rfl rfl) ?_
    refine OpsOk.cons rfl (OpOk.alloc 4 [none, none, none, some 3, some 6, none] rfl zo27 rfl rfl) ?_
    refine OpsOk.cons rfl (.v (VOk.asg (d := (.v (.bool false))) rfl rfl) rfl) ?_
    exact .done (.mk ⟨.same _, .same _, .same _, trivial⟩ ⟨.same _, .same _, trivial⟩)
  refine Ok.seq ?_
  refine Ok.seq ?_
  refine Ok.region (σ' := ⟨[(2, (.bref 2 0)), (4, (.bref 4 0)), (8, (L 1 (eI .i64) a1)), (9, (.v (.int .i64 (a1.length : Int)))), (10, (.v (.int .i64 0)))], [(2, (.box true [(.v (.int .i64 a0.Kind)), (S a0.Name.Space), (S a0.Name.Local), (L 3 e_api_Attr a0.Attrs), (L 6 e_api_Node a0.Kids), (S a0.Text)])), (4, (.box true [(.v (.int .i64 0)), (S ([] : Str)), (S ([] : Str)), (L 3 e_api_Attr ([] : List T_api_Attr)), (L 6 e_api_Node ([] : List T_api_Node)), (S ([] : Str))]))]⟩) ?_ ?_
  · refine OpsOk.cons rfl (.v (VOk.mv (d := (L 1 (eI .i64) a1)) rfl rfl) rfl) ?_
    refine OpsOk.cons rfl (.v (VOk.lenL (e := (eI .i64)) (xs := a1) rfl Try.underlying39 rfl) rfl) ?_
    refine OpsOk.cons rfl (.v (VOk.mv (d := (.v (.int .i64 0))) rfl rfl) rfl) ?_
    exact .done (.mk ⟨.same _, .same _, .same _, .same _, .same _, trivial⟩ ⟨.same _, .same _, trivial⟩)
  refine Ok.block ?_
  refine Ok.le (σ' := ⟨[(2, (.bref 2 0)), (4, (.bref 4 0)), (8, (L 1 (eI .i64) a1)), (9, (.v (.int .i64 (a1.length : Int)))), (10, (.v (.int .i64 0)))], [(2, (.box true [(.v (.int .i64 a0.Kind)), (S a0.Name.Space), (S a0.Name.Local), (L 3 e_api_Attr a0.Attrs), (L 6 e_api_Node a0.Kids), (S a0.Text)])), (4, (.box true [(.v (.int .i64 0)), (S ([] : Str)), (S ([] : Str)), (L 3 e_api_Attr ([] : List T_api_Attr)), (L 6 e_api_Node ([] : List T_api_Node)), (S ([] : Str))]))]⟩) (.mk ⟨.same _, .same _, .same _, .same _, .same _, trivial⟩ ⟨.same _, .same _, trivial⟩) ?_
  refine Ok.loop (fun m27 σ => ∃ (y2_0_2 : Int) (y2_1_3 : Str) (y2_2_4 : Str) (y2_3_5 : List T_api_Attr) (y2_4_6 : List T_api_Node) (y2_5_7 : Str) (y4_0_8 : Int) (y4_1_9 : Str) (y4_2_10 : Str) (y4_3_11 : List T_api_Attr) (y4_4_12 : List T_api_Node) (y4_5_13 : Str) (x10_1 : Int), σ = ⟨[(2, (.bref 2 0)), (4, (.bref 4 0)), (8, (L 1 (eI .i64) a1)), (9, (.v (.int .i64 (a1.length : Int)))), (10, (.v (.int .i64 x10_1)))], [(2, (.box true [(.v (.int .i64 y2_0_2)), (S y2_1_3), (S y2_2_4), (L 3 e_api_Attr y2_3_5), (L 6 e_api_Node y2_4_6), (S y2_5_7)])), (4, (.box true [(.v (.int .i64 y4_0_8)), (S y4_1_9), (S y4_2_10), (L 3 e_api_Attr y4_3_11), (L 6 e_api_Node y4_4_12), (S y4_5_13)]))]⟩ ∧ path_At.l0 k a1 m27 y2_0_2 y2_1_3 y2_2_4 y2_3_5 y2_4_6 y2_5_7 y4_0_8 y4_1_9 y4_2_10 y4_3_11 y4_4_12 y4_5_13 x10_1 = some r) k ⟨a0.Kind, a0.Name.Space, a0.Name.Local, a0.Attrs, a0.Kids, a0.Text, 0, ([] : Str), ([] : Str), ([] : List T_api_Attr), ([] : List T_api_Node), ([] : Str), 0, rfl, H⟩ ?_
  rintro m27 σ ⟨y2_0_2, y2_1_3, y2_2_4, y2_3_5, y2_4_6, y2_5_7, y4_0_8, y4_1_9, y4_2_10, y4_3_11, y4_4_12, y4_5_13, x10_1, rfl, H⟩
  cases m27 with
  | zero => exact absurd H (by simp [path_At.l0])
  | succ m27 =>
    unfold path_At.l0 at H
    refine Ok.seq ?_
    refine Ok.region (σ' := ⟨[(2, (.bref 2 0)), (4, (.bref 4 0)), (8, (L 1 (eI .i64) a1)), (9, (.v (.int .i64 (a1.length : Int)))), (10, (.v (.int .i64 x10_1))), (11, (.v (.bool (decide (x10_1 < (a1.length : Int))))))], [(2, (.box true [(.v (.int .i64 y2_0_2)), (S y2_1_3), (S y2_2_4), (L 3 e_api_Attr y2_3_5), (L 6 e_api_Node y2_4_6), (S y2_5_7)])), (4, (.box true [(.v (.int .i64 y4_0_8)), (S y4_1_9), (S y4_2_10), (L 3 e_api_Attr y4_3_11), (L 6 e_api_Node y4_4_12), (S y4_5_13)]))]⟩) ?_ ?_
    · refine OpsOk.cons rfl (.v (VOk.arith (op := .lss) (k := .i64) (a := x10_1) (b := (a1.length : Int)) rfl rfl rfl rfl) rfl) ?_
      exact .done (.mk ⟨.same _, .same _, .same _, .same _, .same _, .same _, trivial⟩ ⟨.same _, .same _, trivial⟩)
    refine Ok.seq ?_
    refine Ok.test (b := (decide (x10_1 < (a1.length : Int)))) rfl (fun hb35 => ?_) (fun hb35 => ?_)
    · replace H := ifT H hb35
      refine Ok.le (σ' := ⟨[(2, (.bref 2 0)), (4, (.bref 4 0)), (8, (L 1 (eI .i64) a1)), (9, (.v (.int .i64 (a1.length : Int)))), (10, (.v (.int .i64 x10_1)))], [(2, (.box true [(.v (.int .i64 y2_0_2)), (S y2_1_3), (S y2_2_4), (L 3 e_api_Attr y2_3_5), (L 6 e_api_Node y2_4_6), (S y2_5_7)])), (4, (.box true [(.v (.int .i64 y4_0_8)), (S y4_1_9), (S y4_2_10), (L 3 e_api_Attr y4_3_11), (L 6 e_api_Node y4_4_12), (S y4_5_13)]))]⟩) (.mk ⟨.same _, .same _, .same _, .same _, .same _, trivial⟩ ⟨.same _, .same _, trivial⟩) ?_
      refine Ok.skip ?_
      refine Ok.seq ?_
      refine Ok.block ?_
      refine Ok.seq ?_
      obtain ⟨c28, H⟩ := assertE H
      refine Ok.region (σ' := ⟨[(2, (.bref 2 0)), (4, (.bref 4 0)), (7, (.v (.int .i64 (rd a1 x10_1)))), (8, (L 1 (eI .i64) a1)), (9, (.v (.int .i64 (a1.length : Int)))), (10, (.v (.int .i64 x10_1)))], [(2, (.box true [(.v (.int .i64 y2_0_2)), (S y2_1_3), (S y2_2_4), (L 3 e_api_Attr y2_3_5), (L 6 e_api_Node y2_4_6), (S y2_5_7)])), (4, (.box true [(.v (.int .i64 y4_0_8)), (S y4_1_9), (S y4_2_10), (L 3 e_api_Attr y4_3_11), (L 6 e_api_Node y4_4_12), (S y4_5_13)]))]⟩) ?_ ?_
      · refine OpsOk.cons rfl (.v (VOk.indexL (sz := 1) (e := (eI .i64)) (xs := a1) (i := x10_1) rfl Try.underlying39 sz3 rfl rfl c28) rfl) ?_
        refine OpsOk.cons rfl (.v (VOk.loadFp (d := (.v (.int .i64 (rd a1 x10_1)))) rfl Try.underlying3 rfl rfl rfl) rfl) ?_
        refine OpsOk.cons rfl (.v (VOk.asg (d := (.v (.int .i64 (rd a1 x10_1)))) rfl rfl) rfl) ?_
        exact .done (.mk ⟨.same _, .same _, .same _, .same _, .same _, .same _, trivial⟩ ⟨.same _, .same _, trivial⟩)
      refine Ok.seq ?_
      refine Ok.seq ?_
      obtain ⟨t29, h30, H⟩ := bindE H
      refine Ok.region (σ' := ⟨[(2, (.bref 2 0)), (4, (.bref 4 0)), (7, (.v (.int .i64 (rd a1 x10_1)))), (8, (L 1 (eI .i64) a1)), (9, (.v (.int .i64 (a1.length : Int)))), (10, (.v (.int .i64 x10_1))), (17, (.v (.bool (!t29))))], [(2, (.box true [(.v (.int .i64 y2_0_2)), (S y2_1_3), (S y2_2_4), (L 3 e_api_Attr y2_3_5), (L 6 e_api_Node y2_4_6), (S y2_5_7)])), (4, (.box true [(.v (.int .i64 y4_0_8)), (S y4_1_9), (S y4_2_10), (L 3 e_api_Attr y4_3_11), (L 6 e_api_Node y4_4_12), (S y4_5_13)]))]⟩) ?_ ?_
      · refine OpsOk.cons rfl (.v (VOk.to (d' := (.agg (e_api_Node (T_api_Node.mk y2_0_2 (T_api_Name.mk y2_1_3 y2_2_4) y2_3_5 y2_4_6 y2_5_7)))) (.loadBAgg rfl Try.underlying27 rfl sz27 rfl rfl rfl) (congrArg D.agg (e_api_Node_c (T_api_Node.mk y2_0_2 (T_api_Name.mk y2_1_3 y2_2_4) y2_3_5 y2_4_6 y2_5_7)).symm)) rfl) ?_
        refine OpsOk.cons rfl (.v (VOk.mv (d := (.v (.int .i64 (rd a1 x10_1)))) rfl rfl) rfl) ?_
        refine OpsOk.cons rfl (.g (GOk.call rfl rfl cl37 rfl (path_kid.ok h30) rfl) rfl) ?_
        refine OpsOk.cons rfl (.v (VOk.not (b := t29) rfl rfl) rfl) ?_
        exact .done (.mk ⟨.same _, .same _, .same _, .same _, .same _, .same _, .same _, trivial⟩ ⟨.same _, .same _, trivial⟩)
      refine Ok.test (b := (!t29)) rfl (fun hb32 => ?_) (fun hb32 => ?_)
      · replace H := ifT H hb32
        refine Ok.seq ?_
        refine Ok.region (σ' := ⟨[(4, (.bref 4 0)), (5, (.v (.bool false)))], [(4, (.box true [(.v (.int .i64 ((T_api_Node.mk 0 (T_api_Name.mk ([] : Str) ([] : Str)) ([] : List T_api_Attr) ([] : List T_api_Node) ([] : Str)).Kind))), (S ((T_api_Node.mk 0 (T_api_Name.mk ([] : Str) ([] : Str)) ([] : List T_api_Attr) ([] : List T_api_Node) ([] : Str)).Name.Space)), (S ((T_api_Node.mk 0 (T_api_Name.mk ([] : Str) ([] : Str)) ([] : List T_api_Attr) ([] : List T_api_Node) ([] : Str)).Name.Local)), (L 3 e_api_Attr ((T_api_Node.mk 0 (T_api_Name.mk ([] : Str) ([] : Str)) ([] : List T_api_Attr) ([] : List T_api_Node) ([] : Str)).Attrs)), (L 6 e_api_Node ((T_api_Node.mk 0 (T_api_Name.mk ([] : Str) ([] : Str)) ([] : List T_api_Attr) ([] : List T_api_Node) ([] : Str)).Kids)), (S ((T_api_Node.mk 0 (T_api_Name.mk ([] : Str) ([] : Str)) ([] : List T_api_Attr) ([] : List T_api_Node) ([] : Str)).Text))]))]⟩) ?_ ?_
        · refine OpsOk.cons rfl (.v (VOk.to (d' := (.agg (e_api_Node (T_api_Node.mk 0 (T_api_Name.mk ([] : Str) ([] : Str)) ([] : List T_api_Attr) ([] : List T_api_Node) ([] : Str))))) (.build [none, none, none, some 3, some 6, none] [(0, 1), (1, 2), (3, 1), (4, 1), (5, 1)] rfl Try.underlying27 (fa27 Try.underlying27) zo27 rfl rfl) (congrArg D.agg (e_api_Node_c (T_api_Node.mk 0 (T_api_Name.mk ([] : Str) ([] : Str)) ([] : List T_api_Attr) ([] : List T_api_Node) ([] : Str))).symm)) rfl) ?_
          refine OpsOk.cut (σ := ⟨[(2, (.bref 2 0)), (4, (.bref 4 0)), (7, (.v (.int .i64 (rd a1 x10_1)))), (8, (L 1 (eI .i64) a1)), (9, (.v (.int .i64 (a1.length : Int)))), (10, (.v (.int .i64 x10_1))), (17, (.v (.bool (!t29)))), (18, (.agg [(.v (.int .i64 ((T_api_Node.mk 0 (T_api_Name.mk ([] : Str) ([] : Str)) ([] : List T_api_Attr) ([] : List T_api_Node) ([] : Str)).Kind))), (S ((T_api_Node.mk 0 (T_api_Name.mk ([] : Str) ([] : Str)) ([] : List T_api_Attr) ([] : List T_api_Node) ([] : Str)).Name.Space)), (S ((T_api_Node.mk 0 (T_api_Name.mk ([] : Str) ([] : Str)) ([] : List T_api_Attr) ([] : List T_api_Node) ([] : Str)).Name.Local)), (L 3 e_api_Attr ((T_api_Node.mk 0 (T_api_Name.mk ([] : Str) ([] : Str)) ([] : List T_api_Attr) ([] : List T_api_Node) ([] : Str)).Attrs)), (L 6 e_api_Node ((T_api_Node.mk 0 (T_api_Name.mk ([] : Str) ([] : Str)) ([] : List T_api_Attr) ([] : List T_api_Node) ([] : Str)).Kids)), (S ((T_api_Node.mk 0 (T_api_Name.mk ([] : Str) ([] : Str)) ([] : List T_api_Attr) ([] : List T_api_Node) ([] : Str)).Text))]))], [(2, (.box true [(.v (.int .i64 y2_0_2)), (S y2_1_3), (S y2_2_4), (L 3 e_api_Attr y2_3_5), (L 6 e_api_Node y2_4_6), (S y2_5_7)])), (4, (.box true [(.v (.int .i64 y4_0_8)), (S y4_1_9), (S y4_2_10), (L 3 e_api_Attr y4_3_11), (L 6 e_api_Node y4_4_12), (S y4_5_13)]))]⟩) (.mk ⟨.same _, .same _, .same _, .same _, .same _, .same _, .same _, DLe.of_eq (congrArg D.agg (e_api_Node_c _).symm), trivial⟩ ⟨.same _, .same _, trivial⟩) ?_
          refine OpsOk.cons rfl (OpOk.to (σ2 := St.put ⟨_, (4, (.box true [(.v (.int .i64 ((T_api_Node.mk 0 (T_api_Name.mk ([] : Str) ([] : Str)) ([] : List T_api_Attr) ([] : List T_api_Node) ([] : Str)).Kind))), (S ((T_api_Node.mk 0 (T_api_Name.mk ([] : Str) ([] : Str)) ([] : List T_api_Attr) ([] : List T_api_Node) ([] : Str)).Name.Space)), (S ((T_api_Node.mk 0 (T_api_Name.mk ([] : Str) ([] : Str)) ([] : List T_api_Attr) ([] : List T_api_Node) ([] : Str)).Name.Local)), (L 3 e_api_Attr ((T_api_Node.mk 0 (T_api_Name.mk ([] : Str) ([] : Str)) ([] : List T_api_Attr) ([] : List T_api_Node) ([] : Str)).Attrs)), (L 6 e_api_Node ((T_api_Node.mk 0 (T_api_Name.mk ([] : Str) ([] : Str)) ([] : List T_api_Attr) ([] : List T_api_Node) ([] : Str)).Kids)), (S ((T_api_Node.mk 0 (T_api_Name.mk ([] : Str) ([] : Str)) ([] : List T_api_Attr) ([] : List T_api_Node) ([] : Str)).Text))])) :: _⟩ _ .junk) (.storeB rfl sz27 rfl rfl rfl rfl rfl) rfl) ?_
          refine OpsOk.cons rfl (.v (VOk.asg (d := (.v (.bool false))) rfl rfl) rfl) ?_
          exact .done (.mk ⟨.same _, .same _, trivial⟩ ⟨.same _, trivial⟩)
        refine Ok.le (σ' := ⟨[(4, (.bref 4 0)), (5, (.v (.bool false)))], [(4, (.box true [(.v (.int .i64 ((T_api_Node.mk 0 (T_api_Name.mk ([] : Str) ([] : Str)) ([] : List T_api_Attr) ([] : List T_api_Node) ([] : Str)).Kind))), (S ((T_api_Node.mk 0 (T_api_Name.mk ([] : Str) ([] : Str)) ([] : List T_api_Attr) ([] : List T_api_Node) ([] : Str)).Name.Space)), (S ((T_api_Node.mk 0 (T_api_Name.mk ([] : Str) ([] : Str)) ([] : List T_api_Attr) ([] : List T_api_Node) ([] : Str)).Name.Local)), (L 3 e_api_Attr ((T_api_Node.mk 0 (T_api_Name.mk ([] : Str) ([] : Str)) ([] : List T_api_Attr) ([] : List T_api_Node) ([] : Str)).Attrs)), (L 6 e_api_Node ((T_api_Node.mk 0 (T_api_Name.mk ([] : Str) ([] : Str)) ([] : List T_api_Attr) ([] : List T_api_Node) ([] : Str)).Kids)), (S ((T_api_Node.mk 0 (T_api_Name.mk ([] : Str) ([] : Str)) ([] : List T_api_Attr) ([] : List T_api_Node) ([] : Str)).Text))]))]⟩) (.mk ⟨.same _, .same _, trivial⟩ ⟨.same _, trivial⟩) ?_
        refine Ok.ret ?_
        obtain rfl := Option.some.inj H
        exact ⟨.inl rfl, ⟨_, (.cons (.cell (VOk.to (d' := (.agg (e_api_Node (T_api_Node.mk 0 (T_api_Name.mk ([] : Str) ([] : Str)) ([] : List T_api_Attr) ([] : List T_api_Node) ([] : Str))))) (.loadBAgg rfl Try.underlying27 rfl sz27 rfl rfl rfl) (congrArg D.agg (e_api_Node_c (T_api_Node.mk 0 (T_api_Name.mk ([] : Str) ([] : Str)) ([] : List T_api_Attr) ([] : List T_api_Node) ([] : Str))).symm))) (.cons (.tmp rfl) .nil)), rfl⟩, trivial⟩
      · replace H := ifF H hb32
        refine Ok.le (σ' := ⟨[(2, (.bref 2 0)), (4, (.bref 4 0)), (7, (.v (.int .i64 (rd a1 x10_1)))), (8, (L 1 (eI .i64) a1)), (9, (.v (.int .i64 (a1.length : Int)))), (10, (.v (.int .i64 x10_1)))], [(2, (.box true [(.v (.int .i64 y2_0_2)), (S y2_1_3), (S y2_2_4), (L 3 e_api_Attr y2_3_5), (L 6 e_api_Node y2_4_6), (S y2_5_7)])), (4, (.box true [(.v (.int .i64 y4_0_8)), (S y4_1_9), (S y4_2_10), (L 3 e_api_Attr y4_3_11), (L 6 e_api_Node y4_4_12), (S y4_5_13)]))]⟩) (.mk ⟨.same _, .same _, .same _, .same _, .same _, .same _, trivial⟩ ⟨.same _, .same _, trivial⟩) ?_
        refine Ok.skip ?_
        obtain ⟨c31, H⟩ := assertE H
        refine Ok.region (σ' := ⟨[(2, (.bref 2 0)), (4, (.bref 4 0)), (8, (L 1 (eI .i64) a1)), (9, (.v (.int .i64 (a1.length : Int)))), (10, (.v (.int .i64 x10_1)))], [(2, (.box true [(.v (.int .i64 ((rd y2_4_6 (rd a1 x10_1)).Kind))), (S ((rd y2_4_6 (rd a1 x10_1)).Name.Space)), (S ((rd y2_4_6 (rd a1 x10_1)).Name.Local)), (L 3 e_api_Attr ((rd y2_4_6 (rd a1 x10_1)).Attrs)), (L 6 e_api_Node ((rd y2_4_6 (rd a1 x10_1)).Kids)), (S ((rd y2_4_6 (rd a1 x10_1)).Text))])), (4, (.box true [(.v (.int .i64 y4_0_8)), (S y4_1_9), (S y4_2_10), (L 3 e_api_Attr y4_3_11), (L 6 e_api_Node y4_4_12), (S y4_5_13)]))]⟩) ?_ ?_
        · refine OpsOk.cons rfl (.v (VOk.to (VOk.fieldB rfl Try.underlying27 rfl sz25 rfl rfl) rfl) rfl) ?_
          refine OpsOk.cons rfl (.v (VOk.loadB (d := (L 6 e_api_Node y2_4_6)) rfl Try.underlying25 rfl rfl rfl rfl) rfl) ?_
          refine OpsOk.cons rfl (.v (VOk.mv (d := (.v (.int .i64 (rd a1 x10_1)))) rfl rfl) rfl) ?_
          refine OpsOk.cons rfl (.v (VOk.indexL (sz := 6) (e := e_api_Node) (xs := y2_4_6) (i := (rd a1 x10_1)) rfl Try.underlying25 sz27 rfl rfl c31) rfl) ?_
          refine OpsOk.cons rfl (.v (VOk.to (d' := (.agg (e_api_Node (rd y2_4_6 (rd a1 x10_1))))) (.loadFpAgg rfl Try.underlying27 rfl sz27 rfl rfl) rfl) rfl) ?_
          refine OpsOk.cut (σ := ⟨[(2, (.bref 2 0)), (4, (.bref 4 0)), (7, (.v (.int .i64 (rd a1 x10_1)))), (8, (L 1 (eI .i64) a1)), (9, (.v (.int .i64 (a1.length : Int)))), (10, (.v (.int .i64 x10_1))), (19, (.bref 2 4)), (20, (L 6 e_api_Node y2_4_6)), (21, (.v (.int .i64 (rd a1 x10_1)))), (22, (.fp (e_api_Node (rd y2_4_6 (rd a1 x10_1))) 0)), (23, (.agg [(.v (.int .i64 ((rd y2_4_6 (rd a1 x10_1)).Kind))), (S ((rd y2_4_6 (rd a1 x10_1)).Name.Space)), (S ((rd y2_4_6 (rd a1 x10_1)).Name.Local)), (L 3 e_api_Attr ((rd y2_4_6 (rd a1 x10_1)).Attrs)), (L 6 e_api_Node ((rd y2_4_6 (rd a1 x10_1)).Kids)), (S ((rd y2_4_6 (rd a1 x10_1)).Text))]))], [(2, (.box true [(.v (.int .i64 y2_0_2)), (S y2_1_3), (S y2_2_4), (L 3 e_api_Attr y2_3_5), (L 6 e_api_Node y2_4_6), (S y2_5_7)])), (4, (.box true [(.v (.int .i64 y4_0_8)), (S y4_1_9), (S y4_2_10), (L 3 e_api_Attr y4_3_11), (L 6 e_api_Node y4_4_12), (S y4_5_13)]))]⟩) (.mk ⟨.same _, .same _, .same _, .same _, .same _, .same _, .same _, .same _, .same _, .same _, DLe.of_eq (congrArg D.agg (e_api_Node_c _).symm), trivial⟩ ⟨.same _, .same _, trivial⟩) ?_
          refine OpsOk.cons rfl (OpOk.to (σ2 := St.put ⟨_, (2, (.box true [(.v (.int .i64 ((rd y2_4_6 (rd a1 x10_1)).Kind))), (S ((rd y2_4_6 (rd a1 x10_1)).Name.Space)), (S ((rd y2_4_6 (rd a1 x10_1)).Name.Local)), (L 3 e_api_Attr ((rd y2_4_6 (rd a1 x10_1)).Attrs)), (L 6 e_api_Node ((rd y2_4_6 (rd a1 x10_1)).Kids)), (S ((rd y2_4_6 (rd a1 x10_1)).Text))])) :: _⟩ _ .junk) (.storeB rfl sz27 rfl rfl rfl rfl rfl) rfl) ?_
          exact .done (.mk ⟨.same _, .same _, .same _, .same _, .same _, trivial⟩ ⟨.same _, .same _, trivial⟩)
        refine Ok.region (σ' := ⟨[(2, (.bref 2 0)), (4, (.bref 4 0)), (8, (L 1 (eI .i64) a1)), (9, (.v (.int .i64 (a1.length : Int)))), (10, (.v (.int .i64 (IntKind.i64.wrap (x10_1 + 1)))))], [(2, (.box true [(.v (.int .i64 ((rd y2_4_6 (rd a1 x10_1)).Kind))), (S ((rd y2_4_6 (rd a1 x10_1)).Name.Space)), (S ((rd y2_4_6 (rd a1 x10_1)).Name.Local)), (L 3 e_api_Attr ((rd y2_4_6 (rd a1 x10_1)).Attrs)), (L 6 e_api_Node ((rd y2_4_6 (rd a1 x10_1)).Kids)), (S ((rd y2_4_6 (rd a1 x10_1)).Text))])), (4, (.box true [(.v (.int .i64 y4_0_8)), (S y4_1_9), (S y4_2_10), (L 3 e_api_Attr y4_3_11), (L 6 e_api_Node y4_4_12), (S y4_5_13)]))]⟩) ?_ ?_
        · refine OpsOk.cons rfl (.v (VOk.arith (op := .add) (k := .i64) (a := x10_1) (b := 1) rfl rfl rfl rfl) rfl) ?_
          refine OpsOk.cons rfl (.v (VOk.mv (d := (.v (.int .i64 (IntKind.i64.wrap (x10_1 + 1))))) rfl rfl) rfl) ?_
          exact .done (.mk ⟨.same _, .same _, .same _, .same _, .same _, trivial⟩ ⟨.same _, .same _, trivial⟩)
        exact ⟨m27, Nat.lt_succ_self m27, ((rd y2_4_6 (rd a1 x10_1)).Kind), ((rd y2_4_6 (rd a1 x10_1)).Name.Space), ((rd y2_4_6 (rd a1 x10_1)).Name.Local), ((rd y2_4_6 (rd a1 x10_1)).Attrs), ((rd y2_4_6 (rd a1 x10_1)).Kids), ((rd y2_4_6 (rd a1 x10_1)).Text), y4_0_8, y4_1_9, y4_2_10, y4_3_11, y4_4_12, y4_5_13, (IntKind.i64.wrap (x10_1 + 1)), rfl, H⟩
    · replace H := ifF H hb35
      refine Ok.le (σ' := ⟨[(2, (.bref 2 0)), (4, (.bref 4 0))], [(2, (.box true [(.v (.int .i64 y2_0_2)), (S y2_1_3), (S y2_2_4), (L 3 e_api_Attr y2_3_5), (L 6 e_api_Node y2_4_6), (S y2_5_7)])), (4, (.box true [(.v (.int .i64 y4_0_8)), (S y4_1_9), (S y4_2_10), (L 3 e_api_Attr y4_3_11), (L 6 e_api_Node y4_4_12), (S y4_5_13)]))]⟩) (.mk ⟨.same _, .same _, trivial⟩ ⟨.same _, .same _, trivial⟩) ?_
      refine Ok.exit ?_
      refine Ok.seq ?_
      obtain ⟨t33, h34, H⟩ := bindE H
      refine Ok.region (σ' := ⟨[(4, (.bref 4 0)), (5, (.v (.bool true)))], [(4, (.box true [(.v (.int .i64 t33.Kind)), (S t33.Name.Space), (S t33.Name.Local), (L 3 e_api_Attr t33.Attrs), (L 6 e_api_Node t33.Kids), (S t33.Text)]))]⟩) ?_ ?_
      · refine OpsOk.cons rfl (.v (VOk.to (d' := (.agg (e_api_Node (T_api_Node.mk y2_0_2 (T_api_Name.mk y2_1_3 y2_2_4) y2_3_5 y2_4_6 y2_5_7)))) (.loadBAgg rfl Try.underlying27 rfl sz27 rfl rfl rfl) (congrArg D.agg (e_api_Node_c (T_api_Node.mk y2_0_2 (T_api_Name.mk y2_1_3 y2_2_4) y2_3_5 y2_4_6 y2_5_7)).symm)) rfl) ?_
        refine OpsOk.cons rfl (.g (GOk.call rfl rfl cl38 rfl (tree_Copy.ok h34) rfl) rfl) ?_
        refine OpsOk.cut (σ := ⟨[(2, (.bref 2 0)), (4, (.bref 4 0)), (25, (.agg (e_api_Node (T_api_Node.mk y2_0_2 (T_api_Name.mk y2_1_3 y2_2_4) y2_3_5 y2_4_6 y2_5_7)))), (26, (.agg [(.v (.int .i64 t33.Kind)), (S t33.Name.Space), (S t33.Name.Local), (L 3 e_api_Attr t33.Attrs), (L 6 e_api_Node t33.Kids), (S t33.Text)]))], [(2, (.box true [(.v (.int .i64 y2_0_2)), (S y2_1_3), (S y2_2_4), (L 3 e_api_Attr y2_3_5), (L 6 e_api_Node y2_4_6), (S y2_5_7)])), (4, (.box true [(.v (.int .i64 y4_0_8)), (S y4_1_9), (S y4_2_10), (L 3 e_api_Attr y4_3_11), (L 6 e_api_Node y4_4_12), (S y4_5_13)]))]⟩) (.mk ⟨.same _, .same _, .same _, DLe.of_eq (congrArg D.agg (e_api_Node_c _).symm), trivial⟩ ⟨.same _, .same _, trivial⟩) ?_
        refine OpsOk.cons rfl (OpOk.to (σ2 := St.put ⟨_, (4, (.box true [(.v (.int .i64 t33.Kind)), (S t33.Name.Space), (S t33.Name.Local), (L 3 e_api_Attr t33.Attrs), (L 6 e_api_Node t33.Kids), (S t33.Text)])) :: _⟩ _ .junk) (.storeB rfl sz27 rfl rfl rfl rfl rfl) rfl) ?_
        refine OpsOk.cons rfl (.v (VOk.asg (d := (.v (.bool true))) rfl rfl) rfl) ?_
        exact .done (.mk ⟨.same _, .same _, trivial⟩ ⟨.same _, trivial⟩)
      refine Ok.le (σ' := ⟨[(4, (.bref 4 0)), (5, (.v (.bool true)))], [(4, (.box true [(.v (.int .i64 t33.Kind)), (S t33.Name.Space), (S t33.Name.Local), (L 3 e_api_Attr t33.Attrs), (L 6 e_api_Node t33.Kids), (S t33.Text)]))]⟩) (.mk ⟨.same _, .same _, trivial⟩ ⟨.same _, trivial⟩) ?_
      refine Ok.ret ?_
      obtain rfl := Option.some.inj H
      exact ⟨.inl rfl, ⟨_, (.cons (.cell (VOk.to (d' := (.agg (e_api_Node t33))) (.loadBAgg rfl Try.underlying27 rfl sz27 rfl rfl rfl) (congrArg D.agg (e_api_Node_c t33).symm))) (.cons (.tmp rfl) .nil)), rfl⟩, trivial⟩

/-! watchbill/watchbilllaw12.MatchLess: function 5 -/
def watchbilllaw12_MatchLess.l3 (k : Nat) (c2 : Int → Str → Str → List T_api_Attr → List T_api_Node → Str → Int → Bool → Str → Str → Int → Bool → Str → Str → Str → Int → Option Bool) (a1 : List T_api_Step) (a2 : Int) (t18 : (List (List Int))) (x13_62 : Int) (t97 : (List (List Int))) (x16_99 : Int) : Nat → Int → Str → Str → List T_api_Attr → List T_api_Node → Str → Int → Bool → Str → Str → Int → Bool → Str → Str → Str → Bool → Int → Option Bool
  | 0, _, _, _, _, _, _, _, _, _, _, _, _, _, _, _, _, _ => none
  | m166 + 1, y4_0_134, y4_1_135, y4_2_136, y4_3_137, y4_4_138, y4_5_139, y7_0_140, y7_1_141, y7_2_142, y7_3_143, y7_4_144, y7_5_145, y7_6_146, y7_7_147, y7_8_148, x17_132, x18_133 => (if (decide (x18_133 < (t18.length : Int))) = true then (if ((x17_132 == false) = true → (0 : Int) ≤ x16_99 ∧ x16_99 < (t97.length : Int)) then (if ((x17_132 == false) = true → (0 : Int) ≤ x18_133 ∧ x18_133 < (t18.length : Int)) then (((if (x17_132 == false) = true then watchbillref06_Same k (rd t97 x16_99) (rd t18 x18_133) else some default)).bind fun (t170 : Bool) => watchbilllaw12_MatchLess.l3 k c2 a1 a2 t18 x13_62 t97 x16_99 m166 y4_0_134 y4_1_135 y4_2_136 y4_3_137 y4_4_138 y4_5_139 y7_0_140 y7_1_141 y7_2_142 y7_3_143 y7_4_144 y7_5_145 y7_6_146 y7_7_147 y7_8_148 (x17_132 || t170) (IntKind.i64.wrap (x18_133 + 1))) else none) else none) else (if (!x17_132) = true then some false else c2 y4_0_134 y4_1_135 y4_2_136 y4_3_137 y4_4_138 y4_5_139 y7_0_140 y7_1_141 y7_2_142 y7_3_143 y7_4_144 y7_5_145 y7_6_146 y7_7_147 y7_8_148 (IntKind.i64.wrap (x16_99 + 1))))
def watchbilllaw12_MatchLess.l2 (k : Nat) (c1 : Int → Str → Str → List T_api_Attr → List T_api_Node → Str → Int → Bool → Str → Str → Int → Bool → Str → Str → Str → Int → Option Bool) (a1 : List T_api_Step) (a2 : Int) (t18 : (List (List Int))) (x13_62 : Int) (t97 : (List (List Int))) : Nat → Int → Str → Str → List T_api_Attr → List T_api_Node → Str → Int → Bool → Str → Str → Int → Bool → Str → Str → Str → Int → Option Bool
  | 0, _, _, _, _, _, _, _, _, _, _, _, _, _, _, _, _ => none
  | m131 + 1, y4_0_100, y4_1_101, y4_2_102, y4_3_103, y4_4_104, y4_5_105, y7_0_106, y7_1_107, y7_2_108, y7_3_109, y7_4_110, y7_5_111, y7_6_112, y7_7_113, y7_8_114, x16_99 => (if (decide (x16_99 < (t97.length : Int))) = true then watchbilllaw12_MatchLess.l3 k (watchbilllaw12_MatchLess.l2 k c1 a1 a2 t18 x13_62 t97 m131) a1 a2 t18 x13_62 t97 x16_99 k y4_0_100 y4_1_101 y4_2_102 y4_3_103 y4_4_104 y4_5_105 y7_0_106 y7_1_107 y7_2_108 y7_3_109 y7_4_110 y7_5_111 y7_6_112 y7_7_113 y7_8_114 false 0 else c1 y4_0_100 y4_1_101 y4_2_102 y4_3_103 y4_4_104 y4_5_105 y7_0_106 y7_1_107 y7_2_108 y7_3_109 y7_4_110 y7_5_111 y7_6_112 y7_7_113 y7_8_114 (IntKind.i64.wrap (x13_62 + 1)))
def watchbilllaw12_MatchLess.j4 (k : Nat) (c1 : Int → Str → Str → List T_api_Attr → List T_api_Node → Str → Int → Bool → Str → Str → Int → Bool → Str → Str → Str → Int → Option Bool) (a1 : List T_api_Step) (a2 : Int) (t18 : (List (List Int))) (y4_0_63 : Int) (y4_1_64 : Str) (y4_2_65 : Str) (y4_3_66 : List T_api_Attr) (y4_4_67 : List T_api_Node) (y4_5_68 : Str) (y7_0_69 : Int) (y7_1_70 : Bool) (y7_2_71 : Str) (y7_3_72 : Str) (y7_4_73 : Int) (y7_5_74 : Bool) (y7_6_75 : Str) (y7_7_76 : Str) (y7_8_77 : Str) (x13_62 : Int) (y92_96 : List T_api_Step) : Option Bool := ((match_Find k (T_api_Node.mk y4_0_63 (T_api_Name.mk y4_1_64 y4_2_65) y4_3_66 y4_4_67 y4_5_68) y92_96).bind fun (t97 : (List (List Int))) => watchbilllaw12_MatchLess.l2 k (c1) a1 a2 t18 x13_62 t97 k y4_0_63 y4_1_64 y4_2_65 y4_3_66 y4_4_67 y4_5_68 y7_0_69 y7_1_70 y7_2_71 y7_3_72 y7_4_73 y7_5_74 y7_6_75 y7_7_76 y7_8_77 0)
def watchbilllaw12_MatchLess.l1 (k : Nat) (a1 : List T_api_Step) (a2 : Int) (t18 : (List (List Int))) : Nat → Int → Str → Str → List T_api_Attr → List T_api_Node → Str → Int → Bool → Str → Str → Int → Bool → Str → Str → Str → Int → Option Bool
  | 0, _, _, _, _, _, _, _, _, _, _, _, _, _, _, _, _ => none
  | m94 + 1, y4_0_63, y4_1_64, y4_2_65, y4_3_66, y4_4_67, y4_5_68, y7_0_69, y7_1_70, y7_2_71, y7_3_72, y7_4_73, y7_5_74, y7_6_75, y7_7_76, y7_8_77, x13_62 => (if (decide (x13_62 < 3)) = true then (if (([] : List T_api_Step).length + a1.length) * 112 ≤ 140737488355328 then (if (((x13_62 == 0) == true) = true → (0 : Int) ≤ a2 ∧ a2 < ((([] : List T_api_Step) ++ a1).length : Int)) then (if (((x13_62 == 0) && (((rd (([] : List T_api_Step) ++ a1) a2).Pos) == 0)) && (decide (y7_4_73 > 0))) = true then (if (0 : Int) ≤ a2 ∧ a2 < ((([] : List T_api_Step) ++ a1).length : Int) then ((some ((([] : List T_api_Step) ++ a1).set (Int.toNat a2) (T_api_Step.mk ((rd (([] : List T_api_Step) ++ a1) a2).Kind) ((rd (([] : List T_api_Step) ++ a1) a2).Any) (T_api_Name.mk ((rd (([] : List T_api_Step) ++ a1) a2).Name.Space) ((rd (([] : List T_api_Step) ++ a1) a2).Name.Local)) y7_4_73 ((rd (([] : List T_api_Step) ++ a1) a2).By) (T_api_Name.mk ((rd (([] : List T_api_Step) ++ a1) a2).Attr.Space) ((rd (([] : List T_api_Step) ++ a1) a2).Attr.Local)) ((rd (([] : List T_api_Step) ++ a1) a2).Value)))).bind fun (t182 : List T_api_Step) => watchbilllaw12_MatchLess.j4 k (watchbilllaw12_MatchLess.l1 k a1 a2 t18 m94) a1 a2 t18 y4_0_63 y4_1_64 y4_2_65 y4_3_66 y4_4_67 y4_5_68 y7_0_69 y7_1_70 y7_2_71 y7_3_72 y7_4_73 y7_5_74 y7_6_75 y7_7_76 y7_8_77 x13_62 t182) else none) else (if (((x13_62 == 1) == true) = true → (0 : Int) ≤ a2 ∧ a2 < ((([] : List T_api_Step) ++ a1).length : Int)) then (if ((x13_62 == 1) && (!((rd (([] : List T_api_Step) ++ a1) a2).By))) = true then (if (0 : Int) ≤ a2 ∧ a2 < ((([] : List T_api_Step) ++ a1).length : Int) then ((some ((([] : List T_api_Step) ++ a1).set (Int.toNat a2) (T_api_Step.mk ((rd (([] : List T_api_Step) ++ a1) a2).Kind) ((rd (([] : List T_api_Step) ++ a1) a2).Any) (T_api_Name.mk ((rd (([] : List T_api_Step) ++ a1) a2).Name.Space) ((rd (([] : List T_api_Step) ++ a1) a2).Name.Local)) ((rd (([] : List T_api_Step) ++ a1) a2).Pos) true (T_api_Name.mk ((rd (([] : List T_api_Step) ++ a1) a2).Attr.Space) ((rd (([] : List T_api_Step) ++ a1) a2).Attr.Local)) ((rd (([] : List T_api_Step) ++ a1) a2).Value)))).bind fun (t188 : List T_api_Step) => (if (0 : Int) ≤ a2 ∧ a2 < (t188.length : Int) then ((some (t188.set (Int.toNat a2) (T_api_Step.mk ((rd t188 a2).Kind) ((rd t188 a2).Any) (T_api_Name.mk ((rd t188 a2).Name.Space) ((rd t188 a2).Name.Local)) ((rd t188 a2).Pos) ((rd t188 a2).By) (T_api_Name.mk ((T_api_Name.mk y7_6_75 y7_7_76).Space) ((T_api_Name.mk y7_6_75 y7_7_76).Local)) ((rd t188 a2).Value)))).bind fun (t191 : List T_api_Step) => (if (0 : Int) ≤ a2 ∧ a2 < (t191.length : Int) then watchbilllaw12_MatchLess.j4 k (watchbilllaw12_MatchLess.l1 k a1 a2 t18 m94) a1 a2 t18 y4_0_63 y4_1_64 y4_2_65 y4_3_66 y4_4_67 y4_5_68 y7_0_69 y7_1_70 y7_2_71 y7_3_72 y7_4_73 y7_5_74 y7_6_75 y7_7_76 y7_8_77 x13_62 (t191.set (Int.toNat a2) (T_api_Step.mk ((rd t191 a2).Kind) ((rd t191 a2).Any) (T_api_Name.mk ((rd t191 a2).Name.Space) ((rd t191 a2).Name.Local)) ((rd t191 a2).Pos) ((rd t191 a2).By) (T_api_Name.mk ((rd t191 a2).Attr.Space) ((rd t191 a2).Attr.Local)) y7_8_77)) else none)) else none)) else none) else (if (((x13_62 == 2) == true) = true → (0 : Int) ≤ a2 ∧ a2 < ((([] : List T_api_Step) ++ a1).length : Int)) then (if ((((x13_62 == 2) && ((rd (([] : List T_api_Step) ++ a1) a2).Any)) == true) = true → (0 : Int) ≤ a2 ∧ a2 < ((([] : List T_api_Step) ++ a1).length : Int)) then (if (((x13_62 == 2) && ((rd (([] : List T_api_Step) ++ a1) a2).Any)) && (((rd (([] : List T_api_Step) ++ a1) a2).Pos) == 0)) = true then (if (0 : Int) ≤ a2 ∧ a2 < ((([] : List T_api_Step) ++ a1).length : Int) then ((some ((([] : List T_api_Step) ++ a1).set (Int.toNat a2) (T_api_Step.mk ((rd (([] : List T_api_Step) ++ a1) a2).Kind) false (T_api_Name.mk ((rd (([] : List T_api_Step) ++ a1) a2).Name.Space) ((rd (([] : List T_api_Step) ++ a1) a2).Name.Local)) ((rd (([] : List T_api_Step) ++ a1) a2).Pos) ((rd (([] : List T_api_Step) ++ a1) a2).By) (T_api_Name.mk ((rd (([] : List T_api_Step) ++ a1) a2).Attr.Space) ((rd (([] : List T_api_Step) ++ a1) a2).Attr.Local)) ((rd (([] : List T_api_Step) ++ a1) a2).Value)))).bind fun (t201 : List T_api_Step) => (if (0 : Int) ≤ a2 ∧ a2 < (t201.length : Int) then ((some (t201.set (Int.toNat a2) (T_api_Step.mk ((rd t201 a2).Kind) ((rd t201 a2).Any) (T_api_Name.mk ((T_api_Name.mk y7_2_71 y7_3_72).Space) ((T_api_Name.mk y7_2_71 y7_3_72).Local)) ((rd t201 a2).Pos) ((rd t201 a2).By) (T_api_Name.mk ((rd t201 a2).Attr.Space) ((rd t201 a2).Attr.Local)) ((rd t201 a2).Value)))).bind fun (t204 : List T_api_Step) => watchbilllaw12_MatchLess.j4 k (watchbilllaw12_MatchLess.l1 k a1 a2 t18 m94) a1 a2 t18 y4_0_63 y4_1_64 y4_2_65 y4_3_66 y4_4_67 y4_5_68 y7_0_69 y7_1_70 y7_2_71 y7_3_72 y7_4_73 y7_5_74 y7_6_75 y7_7_76 y7_8_77 x13_62 t204) else none)) else none) else watchbilllaw12_MatchLess.j4 k (watchbilllaw12_MatchLess.l1 k a1 a2 t18 m94) a1 a2 t18 y4_0_63 y4_1_64 y4_2_65 y4_3_66 y4_4_67 y4_5_68 y7_0_69 y7_1_70 y7_2_71 y7_3_72 y7_4_73 y7_5_74 y7_6_75 y7_7_76 y7_8_77 x13_62 (([] : List T_api_Step) ++ a1)) else none) else none)) else none)) else none) else none) else some true)
def watchbilllaw12_MatchLess.l0 (k : Nat) (a1 : List T_api_Step) (a2 : Int) (t18 : (List (List Int))) : Nat → Int → Str → Str → List T_api_Attr → List T_api_Node → Str → Int → Bool → Str → Str → Int → Bool → Str → Str → Str → Int → Option Bool
  | 0, _, _, _, _, _, _, _, _, _, _, _, _, _, _, _, _ => none
  | m52 + 1, y4_0_21, y4_1_22, y4_2_23, y4_3_24, y4_4_25, y4_5_26, y7_0_27, y7_1_28, y7_2_29, y7_3_30, y7_4_31, y7_5_32, y7_6_33, y7_7_34, y7_8_35, x10_20 => (if (decide (x10_20 < (t18.length : Int))) = true then (if (0 : Int) ≤ x10_20 ∧ x10_20 < (t18.length : Int) then ((path_At k (T_api_Node.mk y4_0_21 (T_api_Name.mk y4_1_22 y4_2_23) y4_3_24 y4_4_25 y4_5_26) (rd t18 x10_20)).bind fun (t54 : T_api_Node × Bool) => (if ((((!t54.2) || (t54.1.Kind != 1)) == false) = true → (0 : Int) ≤ x10_20 ∧ x10_20 < (t18.length : Int)) then (if (((!t54.2) || (t54.1.Kind != 1)) || (((rd t18 x10_20).length : Int) != (IntKind.i64.wrap ((a1.length : Int) - 1)))) = true then some false else watchbilllaw12_MatchLess.l0 k a1 a2 t18 m52 y4_0_21 y4_1_22 y4_2_23 y4_3_24 y4_4_25 y4_5_26 y7_0_27 y7_1_28 y7_2_29 y7_3_30 y7_4_31 y7_5_32 y7_6_33 y7_7_34 y7_8_35 (IntKind.i64.wrap (x10_20 + 1))) else none)) else none) else watchbilllaw12_MatchLess.l1 k a1 a2 t18 k y4_0_21 y4_1_22 y4_2_23 y4_3_24 y4_4_25 y4_5_26 y7_0_27 y7_1_28 y7_2_29 y7_3_30 y7_4_31 y7_5_32 y7_6_33 y7_7_34 y7_8_35 0)
def watchbilllaw12_MatchLess (k : Nat) (a0 : T_api_Node) (a1 : List T_api_Step) (a2 : Int) (a3 : T_api_Step) : Option Bool := ((watchbilllaw12_awake k).bind fun (t1 : Bool) => (if (!t1) = true then some false else ((watchbilllaw04_Few k a0).bind fun (t3 : Bool) => (((if ((!t3) == false) = true then watchbilllaw10_Few k a1 else some default)).bind fun (t6 : Bool) => (if (((((((!t3) || (!t6)) || (decide ((a1.length : Int) > 30))) || (decide (a2 < 0))) || (decide (a2 ≥ (a1.length : Int)))) == false) = true → (0 : Int) ≤ a2 ∧ a2 < (a1.length : Int)) then (if ((((((!t3) || (!t6)) || (decide ((a1.length : Int) > 30))) || (decide (a2 < 0))) || (decide (a2 ≥ (a1.length : Int)))) || (((rd a1 a2).Kind) != 1)) = true then some true else ((match_Find k a0 a1).bind fun (t18 : (List (List Int))) => watchbilllaw12_MatchLess.l0 k a1 a2 t18 k a0.Kind a0.Name.Space a0.Name.Local a0.Attrs a0.Kids a0.Text a3.Kind a3.Any a3.Name.Space a3.Name.Local a3.Pos a3.By a3.Attr.Space a3.Attr.Local a3.Value 0)) else none)))))
theorem watchbilllaw12_MatchLess.ok {k : Nat} {a0 : T_api_Node} {a1 : List T_api_Step} {a2 : Int} {a3 : T_api_Step} {r : Bool} (H : watchbilllaw12_MatchLess k a0 a1 a2 a3 = some r) : Vx.Fn Try.prog 5 [(.agg (e_api_Node a0)), (L 9 e_api_Step a1), (.v (.int .i64 a2)), (.agg (e_api_Step a3))] [] (.v (.bool r)) [] := by
  unfold watchbilllaw12_MatchLess at H
  refine Vx.Fn.of_okR Try.func5 rfl (Nat.le_of_ble_eq_true rfl) ?_
  refine Ok.seq ?_
  refine Ok.region (σ' := ⟨[(1, (L 9 e_api_Step a1)), (2, (.v (.int .i64 a2))), (4, (.bref 4 0)), (7, (.bref 7 0))], [(4, (.box true [(.v (.int .i64 a0.Kind)), (S a0.Name.Space), (S a0.Name.Local), (L 3 e_api_Attr a0.Attrs), (L 6 e_api_Node a0.Kids), (S a0.Text)])), (7, (.box true [(.v (.int .i64 a3.Kind)), (.v (.bool a3.Any)), (S a3.Name.Space), (S a3.Name.Local), (.v (.int .i64 a3.Pos)), (.v (.bool a3.By)), (S a3.Attr.Space), (S a3.Attr.Local), (S a3.Value)]))]⟩) ?_ ?_
  · refine OpsOk.cut (σ := ⟨[(0, (.agg [(.v (.int .i64 a0.Kind)), (S a0.Name.Space), (S a0.Name.Local), (L 3 e_api_Attr a0.Attrs), (L 6 e_api_Node a0.Kids), (S a0.Text)])), (1, (L 9 e_api_Step a1)), (2, (.v (.int .i64 a2))), (3, (.agg (e_api_Step a3)))], []⟩) (.mk ⟨DLe.of_eq (congrArg D.agg (e_api_Node_c _).symm), .same _, .same _, .same _, trivial⟩ trivial) ?_
    refine OpsOk.cons rfl (OpOk.box 4 (cells := [(.v (.int .i64 a0.Kind)), (S a0.Name.Space), (S a0.Name.Local), (L 3 e_api_Attr a0.Attrs), (L 6 e_api_Node a0.Kids), (S a0.Text)]) rfl rfl rfl rfl) ?_
    refine OpsOk.cons rfl (OpOk.box 7 (cells := [(.v (.int .i64 a3.Kind)), (.v (.bool a3.Any)), (S a3.Name.Space), (S a3.Name.Local), (.v (.int .i64 a3.Pos)), (.v (.bool a3.By)), (S a3.Attr.Space), (S a3.Attr.Local), (S a3.Value)]) rfl rfl rfl rfl) ?_
    refine OpsOk.cons rfl (.v (VOk.asg (d := (.v (.bool false))) rfl rfl) rfl) ?_
    exact .done (.mk ⟨.same _, .same _, .same _, .same _, trivial⟩ ⟨.same _, .same _, trivial⟩)
  refine Ok.seq ?_
  refine Ok.seq ?_
  obtain ⟨t1, h2, H⟩ := bindE H
  refine Ok.region (σ' := ⟨[(1, (L 9 e_api_Step a1)), (2, (.v (.int .i64 a2))), (4, (.bref 4 0)), (7, (.bref 7 0)), (20, (.v (.bool (!t1))))], [(4, (.box true [(.v (.int .i64 a0.Kind)), (S a0.Name.Space), (S a0.Name.Local), (L 3 e_api_Attr a0.Attrs), (L 6 e_api_Node a0.Kids), (S a0.Text)])), (7, (.box true [(.v (.int .i64 a3.Kind)), (.v (.bool a3.Any)), (S a3.Name.Space), (S a3.Name.Local), (.v (.int .i64 a3.Pos)), (.v (.bool a3.By)), (S a3.Attr.Space), (S a3.Attr.Local), (S a3.Value)]))]⟩) ?_ ?_
  · refine OpsOk.cons rfl (.g (GOk.call rfl rfl cl7 rfl (watchbilllaw12_awake.ok h2) rfl) rfl) ?_
    refine OpsOk.cons rfl (.v (VOk.not (b := t1) rfl rfl) rfl) ?_
    exact .done (.mk ⟨.same _, .same _, .same _, .same _, .same _, trivial⟩ ⟨.same _, .same _, trivial⟩)
  refine Ok.test (b := (!t1)) rfl (fun hb212 => ?_) (fun hb212 => ?_)
  · replace H := ifT H hb212
    refine Ok.seq ?_
    refine Ok.region (σ' := ⟨[(8, (.v (.bool false)))], []⟩) ?_ ?_
    · refine OpsOk.cons rfl (.v (VOk.asg (d := (.v (.bool false))) rfl rfl) rfl) ?_
      exact .done (.mk ⟨.same _, trivial⟩ trivial)
    refine Ok.le (σ' := ⟨[(8, (.v (.bool false)))], []⟩) (.mk ⟨.same _, trivial⟩ trivial) ?_
    refine Ok.ret ?_
    obtain rfl := Option.some.inj H
    exact ⟨.inl rfl, ⟨_, (.cons (.tmp rfl) .nil), rfl⟩, trivial⟩
  · replace H := ifF H hb212
    refine Ok.le (σ' := ⟨[(1, (L 9 e_api_Step a1)), (2, (.v (.int .i64 a2))), (4, (.bref 4 0)), (7, (.bref 7 0))], [(4, (.box true [(.v (.int .i64 a0.Kind)), (S a0.Name.Space), (S a0.Name.Local), (L 3 e_api_Attr a0.Attrs), (L 6 e_api_Node a0.Kids), (S a0.Text)])), (7, (.box true [(.v (.int .i64 a3.Kind)), (.v (.bool a3.Any)), (S a3.Name.Space), (S a3.Name.Local), (.v (.int .i64 a3.Pos)), (.v (.bool a3.By)), (S a3.Attr.Space), (S a3.Attr.Local), (S a3.Value)]))]⟩) (.mk ⟨.same _, .same _, .same _, .same _, trivial⟩ ⟨.same _, .same _, trivial⟩) ?_
    refine Ok.skip ?_
    refine Ok.seq ?_
    refine Ok.seq ?_
    obtain ⟨t3, h4, H⟩ := bindE H
    obtain ⟨t6, h7, H⟩ := bindE H
    obtain ⟨c16, H⟩ := assertE H
    refine Ok.region (σ' := ⟨[(1, (L 9 e_api_Step a1)), (2, (.v (.int .i64 a2))), (4, (.bref 4 0)), (7, (.bref 7 0)), (51, (.v (.bool ((((((!t3) || (!t6)) || (decide ((a1.length : Int) > 30))) || (decide (a2 < 0))) || (decide (a2 ≥ (a1.length : Int)))) || (((rd a1 a2).Kind) != 1)))))], [(4, (.box true [(.v (.int .i64 a0.Kind)), (S a0.Name.Space), (S a0.Name.Local), (L 3 e_api_Attr a0.Attrs), (L 6 e_api_Node a0.Kids), (S a0.Text)])), (7, (.box true [(.v (.int .i64 a3.Kind)), (.v (.bool a3.Any)), (S a3.Name.Space), (S a3.Name.Local), (.v (.int .i64 a3.Pos)), (.v (.bool a3.By)), (S a3.Attr.Space), (S a3.Attr.Local), (S a3.Value)]))]⟩) ?_ ?_
    · refine OpsOk.cons rfl (.v (VOk.to (d' := (.agg (e_api_Node a0))) (.loadBAgg rfl Try.underlying27 rfl sz27 rfl rfl rfl) (congrArg D.agg (e_api_Node_c a0).symm)) rfl) ?_
      refine OpsOk.cons rfl (.g (GOk.call rfl rfl cl8 rfl (watchbilllaw04_Few.ok h4) rfl) rfl) ?_
      refine OpsOk.cons rfl (.v (VOk.not (b := t3) rfl rfl) rfl) ?_
      refine OpsOk.cons rfl (.v (VOk.mv (d := (.v (.bool (!t3)))) rfl rfl) rfl) ?_
      refine OpsOk.consI rfl rfl rfl (.one rfl) rfl (fun hw5 => (VOk.g (VOk.mv (d := (L 9 e_api_Step a1)) rfl rfl))) ?_
      refine OpsOk.consI rfl rfl rfl (.one rfl) rfl (fun hw5 => (GOk.fr (fr' := [(25, (L 9 e_api_Step a1))]) ⟨DLe.of_eq (cT hw5).symm, trivial⟩ (GOk.call rfl rfl cl9 rfl (watchbilllaw10_Few.ok (ifT h7 hw5)) rfl))) ?_
      refine OpsOk.consI rfl rfl rfl (.one rfl) rfl (fun hw5 => (GOk.fr (fr' := [(26, (.v (.bool t6)))]) ⟨DLe.of_eq (cT hw5).symm, trivial⟩ (VOk.g (VOk.not (b := t6) rfl rfl)))) ?_
      refine OpsOk.cons rfl (.v (VOk.to (VOk.pickI (b := (!t3)) (p := true) (q := (!t6)) rfl rfl (fun hp8 => rfl) (fun hp8 => (cT (f_beq hp8)))) (pickOr (!t3) (!t6))) rfl) ?_
      refine OpsOk.cons rfl (.v (VOk.mv (d := (.v (.bool ((!t3) || (!t6))))) rfl rfl) rfl) ?_
      refine OpsOk.consI rfl rfl rfl (.one rfl) rfl (fun hw9 => (VOk.g (VOk.mv (d := (L 9 e_api_Step a1)) rfl rfl))) ?_
      refine OpsOk.consI rfl rfl rfl (.one rfl) rfl (fun hw9 => (GOk.fr (fr' := [(30, (L 9 e_api_Step a1))]) ⟨DLe.of_eq (cT hw9).symm, trivial⟩ (VOk.g (VOk.lenL (e := e_api_Step) (xs := a1) rfl Try.underlying28 rfl)))) ?_
      refine OpsOk.consI rfl rfl rfl (.one rfl) rfl (fun hw9 => (GOk.fr (fr' := [(31, (.v (.int .i64 (a1.length : Int))))]) ⟨DLe.of_eq (cT hw9).symm, trivial⟩ (VOk.g (VOk.arith (op := .gtr) (k := .i64) (a := (a1.length : Int)) (b := 30) rfl rfl rfl rfl)))) ?_
      refine OpsOk.cons rfl (.v (VOk.to (VOk.pickI (b := ((!t3) || (!t6))) (p := true) (q := (decide ((a1.length : Int) > 30))) rfl rfl (fun hp10 => rfl) (fun hp10 => (cT (f_beq hp10)))) (pickOr ((!t3) || (!t6)) (decide ((a1.length : Int) > 30)))) rfl) ?_
      refine OpsOk.cons rfl (.v (VOk.mv (d := (.v (.bool (((!t3) || (!t6)) || (decide ((a1.length : Int) > 30)))))) rfl rfl) rfl) ?_
      refine OpsOk.consI rfl rfl rfl (.one rfl) rfl (fun hw11 => (VOk.g (VOk.mv (d := (.v (.int .i64 a2))) rfl rfl))) ?_
      refine OpsOk.consI rfl rfl rfl (.one rfl) rfl (fun hw11 => (GOk.fr (fr' := [(35, (.v (.int .i64 a2)))]) ⟨DLe.of_eq (cT hw11).symm, trivial⟩ (VOk.g (VOk.arith (op := .lss) (k := .i64) (a := a2) (b := 0) rfl rfl rfl rfl)))) ?_
      refine OpsOk.cons rfl (.v (VOk.to (VOk.pickI (b := (((!t3) || (!t6)) || (decide ((a1.length : Int) > 30)))) (p := true) (q := (decide (a2 < 0))) rfl rfl (fun hp12 => rfl) (fun hp12 => (cT (f_beq hp12)))) (pickOr (((!t3) || (!t6)) || (decide ((a1.length : Int) > 30))) (decide (a2 < 0)))) rfl) ?_
      refine OpsOk.cons rfl (.v (VOk.mv (d := (.v (.bool ((((!t3) || (!t6)) || (decide ((a1.length : Int) > 30))) || (decide (a2 < 0)))))) rfl rfl) rfl) ?_
      refine OpsOk.consI rfl rfl rfl (.one rfl) rfl (fun hw13 => (VOk.g (VOk.mv (d := (.v (.int .i64 a2))) rfl rfl))) ?_
      refine OpsOk.consI rfl rfl rfl (.one rfl) rfl (fun hw13 => (VOk.g (VOk.mv (d := (L 9 e_api_Step a1)) rfl rfl))) ?_
      refine OpsOk.consI rfl rfl rfl (.one rfl) rfl (fun hw13 => (GOk.fr (fr' := [(40, (L 9 e_api_Step a1))]) ⟨DLe.of_eq (cT hw13).symm, trivial⟩ (VOk.g (VOk.lenL (e := e_api_Step) (xs := a1) rfl Try.underlying28 rfl)))) ?_
      refine OpsOk.consI rfl rfl rfl (.one rfl) rfl (fun hw13 => (GOk.fr (fr' := [(39, (.v (.int .i64 a2))), (41, (.v (.int .i64 (a1.length : Int))))]) ⟨DLe.of_eq (cT hw13).symm, DLe.of_eq (cT hw13).symm, trivial⟩ (VOk.g (VOk.arith (op := .geq) (k := .i64) (a := a2) (b := (a1.length : Int)) rfl rfl rfl rfl)))) ?_
      refine OpsOk.cons rfl (.v (VOk.to (VOk.pickI (b := ((((!t3) || (!t6)) || (decide ((a1.length : Int) > 30))) || (decide (a2 < 0)))) (p := true) (q := (decide (a2 ≥ (a1.length : Int)))) rfl rfl (fun hp14 => rfl) (fun hp14 => (cT (f_beq hp14)))) (pickOr ((((!t3) || (!t6)) || (decide ((a1.length : Int) > 30))) || (decide (a2 < 0))) (decide (a2 ≥ (a1.length : Int))))) rfl) ?_
      refine OpsOk.cons rfl (.v (VOk.mv (d := (.v (.bool (((((!t3) || (!t6)) || (decide ((a1.length : Int) > 30))) || (decide (a2 < 0))) || (decide (a2 ≥ (a1.length : Int))))))) rfl rfl) rfl) ?_
      refine OpsOk.consI rfl rfl rfl (.one rfl) rfl (fun hw15 => (VOk.g (VOk.mv (d := (L 9 e_api_Step a1)) rfl rfl))) ?_
      refine OpsOk.consI rfl rfl rfl (.one rfl) rfl (fun hw15 => (VOk.g (VOk.mv (d := (.v (.int .i64 a2))) rfl rfl))) ?_
      refine OpsOk.consI rfl rfl rfl (.one rfl) rfl (fun hw15 => (GOk.fr (fr' := [(45, (L 9 e_api_Step a1)), (46, (.v (.int .i64 a2)))]) ⟨DLe.of_eq (cT hw15).symm, DLe.of_eq (cT hw15).symm, trivial⟩ (VOk.g (VOk.indexL (sz := 9) (e := e_api_Step) (xs := a1) (i := a2) rfl Try.underlying28 sz30 rfl rfl (c16 hw15))))) ?_
      refine OpsOk.consI rfl rfl rfl (.one rfl) rfl (fun hw15 => (GOk.fr (fr' := [(47, (.fp (e_api_Step (rd a1 a2)) 0))]) ⟨DLe.of_eq (cT hw15).symm, trivial⟩ (VOk.g (VOk.to (VOk.fieldFp rfl Try.underlying30 rfl sz3 rfl) rfl)))) ?_
      refine OpsOk.consI rfl rfl rfl (.one rfl) rfl (fun hw15 => (GOk.fr (fr' := [(48, (.fp (e_api_Step (rd a1 a2)) 0))]) ⟨DLe.of_eq (cT hw15).symm, trivial⟩ (VOk.g (VOk.loadFp (d := (.v (.int .i64 ((rd a1 a2).Kind)))) rfl Try.underlying3 rfl rfl rfl)))) ?_
      refine OpsOk.consI rfl rfl rfl (.one rfl) rfl (fun hw15 => (GOk.fr (fr' := [(49, (.v (.int .i64 ((rd a1 a2).Kind))))]) ⟨DLe.of_eq (cT hw15).symm, trivial⟩ (VOk.g (VOk.arith (op := .neq) (k := .i64) (a := (rd a1 a2).Kind) (b := 1) rfl rfl rfl rfl)))) ?_
      refine OpsOk.cons rfl (.v (VOk.to (VOk.pickI (b := (((((!t3) || (!t6)) || (decide ((a1.length : Int) > 30))) || (decide (a2 < 0))) || (decide (a2 ≥ (a1.length : Int))))) (p := true) (q := (((rd a1 a2).Kind) != 1)) rfl rfl (fun hp17 => rfl) (fun hp17 => (cT (f_beq hp17)))) (pickOr (((((!t3) || (!t6)) || (decide ((a1.length : Int) > 30))) || (decide (a2 < 0))) || (decide (a2 ≥ (a1.length : Int)))) (((rd a1 a2).Kind) != 1))) rfl) ?_
      exact .done (.mk ⟨.same _, .same _, .same _, .same _, .same _, trivial⟩ ⟨.same _, .same _, trivial⟩)
    refine Ok.test (b := ((((((!t3) || (!t6)) || (decide ((a1.length : Int) > 30))) || (decide (a2 < 0))) || (decide (a2 ≥ (a1.length : Int)))) || (((rd a1 a2).Kind) != 1))) rfl (fun hb211 => ?_) (fun hb211 => ?_)
    · replace H := ifT H hb211
      refine Ok.seq ?_
      refine Ok.region (σ' := ⟨[(8, (.v (.bool true)))], []⟩) ?_ ?_
      · refine OpsOk.cons rfl (.v (VOk.asg (d := (.v (.bool true))) rfl rfl) rfl) ?_
        exact .done (.mk ⟨.same _, trivial⟩ trivial)
      refine Ok.le (σ' := ⟨[(8, (.v (.bool true)))], []⟩) (.mk ⟨.same _, trivial⟩ trivial) ?_
      refine Ok.ret ?_
      obtain rfl := Option.some.inj H
      exact ⟨.inl rfl, ⟨_, (.cons (.tmp rfl) .nil), rfl⟩, trivial⟩
    · replace H := ifF H hb211
      refine Ok.le (σ' := ⟨[(1, (L 9 e_api_Step a1)), (2, (.v (.int .i64 a2))), (4, (.bref 4 0)), (7, (.bref 7 0))], [(4, (.box true [(.v (.int .i64 a0.Kind)), (S a0.Name.Space), (S a0.Name.Local), (L 3 e_api_Attr a0.Attrs), (L 6 e_api_Node a0.Kids), (S a0.Text)])), (7, (.box true [(.v (.int .i64 a3.Kind)), (.v (.bool a3.Any)), (S a3.Name.Space), (S a3.Name.Local), (.v (.int .i64 a3.Pos)), (.v (.bool a3.By)), (S a3.Attr.Space), (S a3.Attr.Local), (S a3.Value)]))]⟩) (.mk ⟨.same _, .same _, .same _, .same _, trivial⟩ ⟨.same _, .same _, trivial⟩) ?_
      refine Ok.skip ?_
      refine Ok.seq ?_
      obtain ⟨t18, h19, H⟩ := bindE H
      refine Ok.region (σ' := ⟨[(1, (L 9 e_api_Step a1)), (2, (.v (.int .i64 a2))), (4, (.bref 4 0)), (7, (.bref 7 0)), (9, (L 1 (eL 1 (eI .i64)) t18))], [(4, (.box true [(.v (.int .i64 a0.Kind)), (S a0.Name.Space), (S a0.Name.Local), (L 3 e_api_Attr a0.Attrs), (L 6 e_api_Node a0.Kids), (S a0.Text)])), (7, (.box true [(.v (.int .i64 a3.Kind)), (.v (.bool a3.Any)), (S a3.Name.Space), (S a3.Name.Local), (.v (.int .i64 a3.Pos)), (.v (.bool a3.By)), (S a3.Attr.Space), (S a3.Attr.Local), (S a3.Value)]))]⟩) ?_ ?_
      · refine OpsOk.cons rfl (.v (VOk.to (d' := (.agg (e_api_Node a0))) (.loadBAgg rfl Try.underlying27 rfl sz27 rfl rfl rfl) (congrArg D.agg (e_api_Node_c a0).symm)) rfl) ?_
        refine OpsOk.cons rfl (.v (VOk.mv (d := (L 9 e_api_Step a1)) rfl rfl) rfl) ?_
        refine OpsOk.cons rfl (.g (GOk.call rfl rfl cl10 rfl (match_Find.ok h19) rfl) rfl) ?_
        refine OpsOk.cons rfl (.v (VOk.asg (d := (L 1 (eL 1 (eI .i64)) t18)) rfl rfl) rfl) ?_
        exact .done (.mk ⟨.same _, .same _, .same _, .same _, .same _, trivial⟩ ⟨.same _, .same _, trivial⟩)
      refine Ok.seq ?_
      refine Ok.seq ?_
      refine Ok.region (σ' := ⟨[(1, (L 9 e_api_Step a1)), (2, (.v (.int .i64 a2))), (4, (.bref 4 0)), (7, (.bref 7 0)), (9, (L 1 (eL 1 (eI .i64)) t18)), (10, (.v (.int .i64 0)))], [(4, (.box true [(.v (.int .i64 a0.Kind)), (S a0.Name.Space), (S a0.Name.Local), (L 3 e_api_Attr a0.Attrs), (L 6 e_api_Node a0.Kids), (S a0.Text)])), (7, (.box true [(.v (.int .i64 a3.Kind)), (.v (.bool a3.Any)), (S a3.Name.Space), (S a3.Name.Local), (.v (.int .i64 a3.Pos)), (.v (.bool a3.By)), (S a3.Attr.Space), (S a3.Attr.Local), (S a3.Value)]))]⟩) ?_ ?_
      · refine OpsOk.cons rfl (.v (VOk.asg (d := (.v (.int .i64 0))) rfl rfl) rfl) ?_
        exact .done (.mk ⟨.same _, .same _, .same _, .same _, .same _, .same _, trivial⟩ ⟨.same _, .same _, trivial⟩)
      refine Ok.block ?_
      refine Ok.le (σ' := ⟨[(1, (L 9 e_api_Step a1)), (2, (.v (.int .i64 a2))), (4, (.bref 4 0)), (7, (.bref 7 0)), (9, (L 1 (eL 1 (eI .i64)) t18)), (10, (.v (.int .i64 0)))], [(4, (.box true [(.v (.int .i64 a0.Kind)), (S a0.Name.Space), (S a0.Name.Local), (L 3 e_api_Attr a0.Attrs), (L 6 e_api_Node a0.Kids), (S a0.Text)])), (7, (.box true [(.v (.int .i64 a3.Kind)), (.v (.bool a3.Any)), (S a3.Name.Space), (S a3.Name.Local), (.v (.int .i64 a3.Pos)), (.v (.bool a3.By)), (S a3.Attr.Space), (S a3.Attr.Local), (S a3.Value)]))]⟩) (.mk ⟨.same _, .same _, .same _, .same _, .same _, .same _, trivial⟩ ⟨.same _, .same _, trivial⟩) ?_
      refine Ok.loop (fun m52 σ => ∃ (y4_0_21 : Int) (y4_1_22 : Str) (y4_2_23 : Str) (y4_3_24 : List T_api_Attr) (y4_4_25 : List T_api_Node) (y4_5_26 : Str) (y7_0_27 : Int) (y7_1_28 : Bool) (y7_2_29 : Str) (y7_3_30 : Str) (y7_4_31 : Int) (y7_5_32 : Bool) (y7_6_33 : Str) (y7_7_34 : Str) (y7_8_35 : Str) (x10_20 : Int), σ = ⟨[(1, (L 9 e_api_Step a1)), (2, (.v (.int .i64 a2))), (4, (.bref 4 0)), (7, (.bref 7 0)), (9, (L 1 (eL 1 (eI .i64)) t18)), (10, (.v (.int .i64 x10_20)))], [(4, (.box true [(.v (.int .i64 y4_0_21)), (S y4_1_22), (S y4_2_23), (L 3 e_api_Attr y4_3_24), (L 6 e_api_Node y4_4_25), (S y4_5_26)])), (7, (.box true [(.v (.int .i64 y7_0_27)), (.v (.bool y7_1_28)), (S y7_2_29), (S y7_3_30), (.v (.int .i64 y7_4_31)), (.v (.bool y7_5_32)), (S y7_6_33), (S y7_7_34), (S y7_8_35)]))]⟩ ∧ watchbilllaw12_MatchLess.l0 k a1 a2 t18 m52 y4_0_21 y4_1_22 y4_2_23 y4_3_24 y4_4_25 y4_5_26 y7_0_27 y7_1_28 y7_2_29 y7_3_30 y7_4_31 y7_5_32 y7_6_33 y7_7_34 y7_8_35 x10_20 = some r) k ⟨a0.Kind, a0.Name.Space, a0.Name.Local, a0.Attrs, a0.Kids, a0.Text, a3.Kind, a3.Any, a3.Name.Space, a3.Name.Local, a3.Pos, a3.By, a3.Attr.Space, a3.Attr.Local, a3.Value, 0, rfl, H⟩ ?_
      rintro m52 σ ⟨y4_0_21, y4_1_22, y4_2_23, y4_3_24, y4_4_25, y4_5_26, y7_0_27, y7_1_28, y7_2_29, y7_3_30, y7_4_31, y7_5_32, y7_6_33, y7_7_34, y7_8_35, x10_20, rfl, H⟩
      cases m52 with
      | zero => exact absurd H (by simp [watchbilllaw12_MatchLess.l0])
      | succ m52 =>
        unfold watchbilllaw12_MatchLess.l0 at H
        refine Ok.seq ?_
        refine Ok.seq ?_
        refine Ok.region (σ' := ⟨[(1, (L 9 e_api_Step a1)), (2, (.v (.int .i64 a2))), (4, (.bref 4 0)), (7, (.bref 7 0)), (9, (L 1 (eL 1 (eI .i64)) t18)), (10, (.v (.int .i64 x10_20))), (58, (.v (.bool (decide (x10_20 < (t18.length : Int))))))], [(4, (.box true [(.v (.int .i64 y4_0_21)), (S y4_1_22), (S y4_2_23), (L 3 e_api_Attr y4_3_24), (L 6 e_api_Node y4_4_25), (S y4_5_26)])), (7, (.box true [(.v (.int .i64 y7_0_27)), (.v (.bool y7_1_28)), (S y7_2_29), (S y7_3_30), (.v (.int .i64 y7_4_31)), (.v (.bool y7_5_32)), (S y7_6_33), (S y7_7_34), (S y7_8_35)]))]⟩) ?_ ?_
        · refine OpsOk.cons rfl (.v (VOk.mv (d := (.v (.int .i64 x10_20))) rfl rfl) rfl) ?_
          refine OpsOk.cons rfl (.v (VOk.mv (d := (L 1 (eL 1 (eI .i64)) t18)) rfl rfl) rfl) ?_
          refine OpsOk.cons rfl (.v (VOk.lenL (e := (eL 1 (eI .i64))) (xs := t18) rfl Try.underlying34 rfl) rfl) ?_
          refine OpsOk.cons rfl (.v (VOk.arith (op := .lss) (k := .i64) (a := x10_20) (b := (t18.length : Int)) rfl rfl rfl rfl) rfl) ?_
          exact .done (.mk ⟨.same _, .same _, .same _, .same _, .same _, .same _, .same _, trivial⟩ ⟨.same _, .same _, trivial⟩)
        refine Ok.test (b := (decide (x10_20 < (t18.length : Int)))) rfl (fun hb210 => ?_) (fun hb210 => ?_)
        · replace H := ifT H hb210
          refine Ok.le (σ' := ⟨[(1, (L 9 e_api_Step a1)), (2, (.v (.int .i64 a2))), (4, (.bref 4 0)), (7, (.bref 7 0)), (9, (L 1 (eL 1 (eI .i64)) t18)), (10, (.v (.int .i64 x10_20)))], [(4, (.box true [(.v (.int .i64 y4_0_21)), (S y4_1_22), (S y4_2_23), (L 3 e_api_Attr y4_3_24), (L 6 e_api_Node y4_4_25), (S y4_5_26)])), (7, (.box true [(.v (.int .i64 y7_0_27)), (.v (.bool y7_1_28)), (S y7_2_29), (S y7_3_30), (.v (.int .i64 y7_4_31)), (.v (.bool y7_5_32)), (S y7_6_33), (S y7_7_34), (S y7_8_35)]))]⟩) (.mk ⟨.same _, .same _, .same _, .same _, .same _, .same _, trivial⟩ ⟨.same _, .same _, trivial⟩) ?_
          refine Ok.skip ?_
          refine Ok.seq ?_
          refine Ok.block ?_
          refine Ok.seq ?_
          obtain ⟨c53, H⟩ := assertE H
          obtain ⟨t54, h55, H⟩ := bindE H
          refine Ok.le (σ' := ⟨[(1, (L 9 e_api_Step a1)), (2, (.v (.int .i64 a2))), (4, (.bref 4 0)), (7, (.bref 7 0)), (9, (L 1 (eL 1 (eI .i64)) t18)), (10, (.v (.int .i64 x10_20)))], [(4, (.box true [(.v (.int .i64 y4_0_21)), (S y4_1_22), (S y4_2_23), (L 3 e_api_Attr y4_3_24), (L 6 e_api_Node y4_4_25), (S y4_5_26)])), (7, (.box true [(.v (.int .i64 y7_0_27)), (.v (.bool y7_1_28)), (S y7_2_29), (S y7_3_30), (.v (.int .i64 y7_4_31)), (.v (.bool y7_5_32)), (S y7_6_33), (S y7_7_34), (S y7_8_35)]))]⟩) (.mk ⟨.same _, .same _, .same _, .same _, .same _, .same _, trivial⟩ ⟨.same _, .same _, trivial⟩) ?_
          refine Ok.drawE2 (σ' := ⟨[(1, (L 9 e_api_Step a1)), (2, (.v (.int .i64 a2))), (4, (.bref 4 0)), (7, (.bref 7 0)), (9, (L 1 (eL 1 (eI .i64)) t18)), (10, (.v (.int .i64 x10_20))), (11, (.bref 11 0)), (12, (.v (.bool t54.2)))], [(4, (.box true [(.v (.int .i64 y4_0_21)), (S y4_1_22), (S y4_2_23), (L 3 e_api_Attr y4_3_24), (L 6 e_api_Node y4_4_25), (S y4_5_26)])), (7, (.box true [(.v (.int .i64 y7_0_27)), (.v (.bool y7_1_28)), (S y7_2_29), (S y7_3_30), (.v (.int .i64 y7_4_31)), (.v (.bool y7_5_32)), (S y7_6_33), (S y7_7_34), (S y7_8_35)])), (11, (.box true [(.v (.int .i64 t54.1.Kind)), (S t54.1.Name.Space), (S t54.1.Name.Local), (L 3 e_api_Attr t54.1.Attrs), (L 6 e_api_Node t54.1.Kids), (S t54.1.Text)]))]⟩) [⟨true, [(4, (.bref 4 0))], [(4, (.box true [(.v (.int .i64 y4_0_21)), (S y4_1_22), (S y4_2_23), (L 3 e_api_Attr y4_3_24), (L 6 e_api_Node y4_4_25), (S y4_5_26)]))], (.agg (e_api_Node (T_api_Node.mk y4_0_21 (T_api_Name.mk y4_1_22 y4_2_23) y4_3_24 y4_4_25 y4_5_26))), none, false⟩, ⟨true, [(9, (L 1 (eL 1 (eI .i64)) t18))], [], (L 1 (eL 1 (eI .i64)) t18), none, false⟩, ⟨true, [(10, (.v (.int .i64 x10_20)))], [], (.v (.int .i64 x10_20)), none, false⟩, ⟨true, [(63, (L 1 (eL 1 (eI .i64)) t18)), (64, (.v (.int .i64 x10_20)))], [], (.fp ((eL 1 (eI .i64)) (rd t18 x10_20)) 0), none, false⟩, ⟨true, [(65, (.fp ((eL 1 (eI .i64)) (rd t18 x10_20)) 0))], [], (L 1 (eI .i64) (rd t18 x10_20)), none, false⟩, ⟨true, [(62, (.agg (e_api_Node (T_api_Node.mk y4_0_21 (T_api_Name.mk y4_1_22 y4_2_23) y4_3_24 y4_4_25 y4_5_26)))), (66, (L 1 (eI .i64) (rd t18 x10_20)))], [], (.tup [(.agg (e_api_Node t54.1)), (.v (.bool t54.2))]), none, false⟩, ⟨true, [(67, (.tup [(.agg (e_api_Node t54.1)), (.v (.bool t54.2))]))], [], (.tup [(.agg (e_api_Node t54.1)), (.v (.bool t54.2))]), none, false⟩, ⟨true, [(61, (.tup [(.agg (e_api_Node t54.1)), (.v (.bool t54.2))]))], [], (.agg (e_api_Node t54.1)), none, false⟩, ⟨true, [(61, (.tup [(.agg (e_api_Node t54.1)), (.v (.bool t54.2))]))], [], (.v (.bool t54.2)), none, false⟩, ⟨true, [], [], (.bref 11 0), (some (11, (.box true [(.v (.int .i64 0)), (S ([] : Str)), (S ([] : Str)), (L 3 e_api_Attr ([] : List T_api_Attr)), (L 6 e_api_Node ([] : List T_api_Node)), (S ([] : Str))]))), true⟩, ⟨true, [(11, (.bref 11 0)), (68, (.agg [(.v (.int .i64 t54.1.Kind)), (S t54.1.Name.Space), (S t54.1.Name.Local), (L 3 e_api_Attr t54.1.Attrs), (L 6 e_api_Node t54.1.Kids), (S t54.1.Text)]))], [(11, (.box true [(.v (.int .i64 0)), (S ([] : Str)), (S ([] : Str)), (L 3 e_api_Attr ([] : List T_api_Attr)), (L 6 e_api_Node ([] : List T_api_Node)), (S ([] : Str))]))], .junk, (some (11, (.box true [(.v (.int .i64 t54.1.Kind)), (S t54.1.Name.Space), (S t54.1.Name.Local), (L 3 e_api_Attr t54.1.Attrs), (L 6 e_api_Node t54.1.Kids), (S t54.1.Text)]))), false⟩, ⟨true, [(69, (.v (.bool t54.2)))], [], (.v (.bool t54.2)), none, false⟩] [[], [], [], [1, 2], [3], [0, 4], [5], [6], [6], [], [7, 9], [8]] mixed (by kernel_rfl) ?_ ?_
          · refine TxtE2.cons ⟨.same _, trivial⟩ ⟨rfl, trivial⟩ (It2.val rfl rfl (fun T hT => (VOk.g (VOk.to (d' := (.agg (e_api_Node (T_api_Node.mk y4_0_21 (T_api_Name.mk y4_1_22 y4_2_23) y4_3_24 y4_4_25 y4_5_26)))) (.loadBAgg rfl Try.underlying27 rfl sz27 rfl hT.1 rfl) (congrArg D.agg (e_api_Node_c (T_api_Node.mk y4_0_21 (T_api_Name.mk y4_1_22 y4_2_23) y4_3_24 y4_4_25 y4_5_26)).symm))))) ?_
            refine TxtE2.cons ⟨.same _, trivial⟩ trivial (It2.val rfl rfl (fun T hT => (VOk.g (VOk.mv (d := (L 1 (eL 1 (eI .i64)) t18)) rfl rfl)))) ?_
            refine TxtE2.cons ⟨.same _, trivial⟩ trivial (It2.val rfl rfl (fun T hT => (VOk.g (VOk.mv (d := (.v (.int .i64 x10_20))) rfl rfl)))) ?_
            refine TxtE2.cons ⟨.same _, .same _, trivial⟩ trivial (It2.val rfl rfl (fun T hT => (VOk.g (VOk.indexL (sz := 1) (e := (eL 1 (eI .i64))) (xs := t18) (i := x10_20) rfl Try.underlying34 sz39 rfl rfl c53)))) ?_
            refine TxtE2.cons ⟨.same _, trivial⟩ trivial (It2.val rfl rfl (fun T hT => (VOk.g (VOk.loadFp (d := (L 1 (eI .i64) (rd t18 x10_20))) rfl Try.underlying39 rfl rfl rfl)))) ?_
            refine TxtE2.cons ⟨.same _, .same _, trivial⟩ trivial (It2.val rfl rfl (fun T hT => (GOk.call rfl rfl cl20 rfl (path_At.ok h55) rfl))) ?_
            refine TxtE2.cons ⟨.same _, trivial⟩ trivial (It2.val rfl rfl (fun T hT => (VOk.g (VOk.mv (d := (.tup [(.agg (e_api_Node t54.1)), (.v (.bool t54.2))])) rfl rfl)))) ?_
            refine TxtE2.cons ⟨.same _, trivial⟩ trivial (It2.val rfl rfl (fun T hT => (VOk.g (VOk.extract (d := (.agg (e_api_Node t54.1))) rfl rfl rfl)))) ?_
            refine TxtE2.cons ⟨.same _, trivial⟩ trivial (It2.val rfl rfl (fun T hT => (VOk.g (VOk.extract (d := (.v (.bool t54.2))) rfl rfl rfl)))) ?_
            refine TxtE2.cons trivial trivial (It2.alloc 11 [none, none, none, some 3, some 6, none] rfl rfl zo27 rfl rfl) ?_
            refine TxtE2.cons ⟨.same _, DLe.of_eq (congrArg D.agg (e_api_Node_c _).symm), trivial⟩ ⟨rfl, trivial⟩ (It2.store rfl rfl sz27 rfl rfl rfl rfl rfl rfl rfl) ?_
            refine TxtE2.cons ⟨.same _, trivial⟩ trivial (It2.val rfl rfl (fun T hT => (VOk.g (VOk.asg (d := (.v (.bool t54.2))) rfl rfl)))) ?_
            exact .done (.mk ⟨.same _, .same _, .same _, .same _, .same _, .same _, .same _, .same _, trivial⟩ ⟨.same _, .same _, .same _, trivial⟩)
          refine Ok.seq ?_
          obtain ⟨c59, H⟩ := assertE H
          refine Ok.region (σ' := ⟨[(1, (L 9 e_api_Step a1)), (2, (.v (.int .i64 a2))), (4, (.bref 4 0)), (7, (.bref 7 0)), (9, (L 1 (eL 1 (eI .i64)) t18)), (10, (.v (.int .i64 x10_20))), (87, (.v (.bool (((!t54.2) || (t54.1.Kind != 1)) || (((rd t18 x10_20).length : Int) != (IntKind.i64.wrap ((a1.length : Int) - 1)))))))], [(4, (.box true [(.v (.int .i64 y4_0_21)), (S y4_1_22), (S y4_2_23), (L 3 e_api_Attr y4_3_24), (L 6 e_api_Node y4_4_25), (S y4_5_26)])), (7, (.box true [(.v (.int .i64 y7_0_27)), (.v (.bool y7_1_28)), (S y7_2_29), (S y7_3_30), (.v (.int .i64 y7_4_31)), (.v (.bool y7_5_32)), (S y7_6_33), (S y7_7_34), (S y7_8_35)]))]⟩) ?_ ?_
          · refine OpsOk.cons rfl (.v (VOk.mv (d := (.v (.bool t54.2))) rfl rfl) rfl) ?_
            refine OpsOk.cons rfl (.v (VOk.not (b := t54.2) rfl rfl) rfl) ?_
            refine OpsOk.cons rfl (.v (VOk.mv (d := (.v (.bool (!t54.2)))) rfl rfl) rfl) ?_
            refine OpsOk.consI rfl rfl rfl (.one rfl) rfl (fun hw56 => (VOk.g (VOk.to (VOk.fieldB rfl Try.underlying27 rfl sz3 rfl rfl) rfl))) ?_
            refine OpsOk.consI rfl rfl rfl (.one rfl) rfl (fun hw56 => (GOk.fr (fr' := [(73, (.bref 11 0))]) ⟨DLe.of_eq (cT hw56).symm, trivial⟩ (VOk.g (VOk.loadB (d := (.v (.int .i64 t54.1.Kind))) rfl Try.underlying3 rfl rfl rfl rfl)))) ?_
            refine OpsOk.consI rfl rfl rfl (.one rfl) rfl (fun hw56 => (GOk.fr (fr' := [(74, (.v (.int .i64 t54.1.Kind)))]) ⟨DLe.of_eq (cT hw56).symm, trivial⟩ (VOk.g (VOk.arith (op := .neq) (k := .i64) (a := t54.1.Kind) (b := 1) rfl rfl rfl rfl)))) ?_
            refine OpsOk.cons rfl (.v (VOk.to (VOk.pickI (b := (!t54.2)) (p := true) (q := (t54.1.Kind != 1)) rfl rfl (fun hp57 => rfl) (fun hp57 => (cT (f_beq hp57)))) (pickOr (!t54.2) (t54.1.Kind != 1))) rfl) ?_
            refine OpsOk.cons rfl (.v (VOk.mv (d := (.v (.bool ((!t54.2) || (t54.1.Kind != 1))))) rfl rfl) rfl) ?_
            refine OpsOk.consI rfl rfl rfl (.one rfl) rfl (fun hw58 => (VOk.g (VOk.mv (d := (L 1 (eL 1 (eI .i64)) t18)) rfl rfl))) ?_
            refine OpsOk.consI rfl rfl rfl (.one rfl) rfl (fun hw58 => (VOk.g (VOk.mv (d := (.v (.int .i64 x10_20))) rfl rfl))) ?_
            refine OpsOk.consI rfl rfl rfl (.one rfl) rfl (fun hw58 => (GOk.fr (fr' := [(78, (L 1 (eL 1 (eI .i64)) t18)), (79, (.v (.int .i64 x10_20)))]) ⟨DLe.of_eq (cT hw58).symm, DLe.of_eq (cT hw58).symm, trivial⟩ (VOk.g (VOk.indexL (sz := 1) (e := (eL 1 (eI .i64))) (xs := t18) (i := x10_20) rfl Try.underlying34 sz39 rfl rfl (c59 hw58))))) ?_
            refine OpsOk.consI rfl rfl rfl (.one rfl) rfl (fun hw58 => (GOk.fr (fr' := [(80, (.fp ((eL 1 (eI .i64)) (rd t18 x10_20)) 0))]) ⟨DLe.of_eq (cT hw58).symm, trivial⟩ (VOk.g (VOk.loadFp (d := (L 1 (eI .i64) (rd t18 x10_20))) rfl Try.underlying39 rfl rfl rfl)))) ?_
            refine OpsOk.consI rfl rfl rfl (.one rfl) rfl (fun hw58 => (GOk.fr (fr' := [(81, (L 1 (eI .i64) (rd t18 x10_20)))]) ⟨DLe.of_eq (cT hw58).symm, trivial⟩ (VOk.g (VOk.lenL (e := (eI .i64)) (xs := (rd t18 x10_20)) rfl Try.underlying39 rfl)))) ?_
            refine OpsOk.consI rfl rfl rfl (.one rfl) rfl (fun hw58 => (VOk.g (VOk.mv (d := (L 9 e_api_Step a1)) rfl rfl))) ?_
            refine OpsOk.consI rfl rfl rfl (.one rfl) rfl (fun hw58 => (GOk.fr (fr' := [(83, (L 9 e_api_Step a1))]) ⟨DLe.of_eq (cT hw58).symm, trivial⟩ (VOk.g (VOk.lenL (e := e_api_Step) (xs := a1) rfl Try.underlying28 rfl)))) ?_
            refine OpsOk.consI rfl rfl rfl (.one rfl) rfl (fun hw58 => (GOk.fr (fr' := [(84, (.v (.int .i64 (a1.length : Int))))]) ⟨DLe.of_eq (cT hw58).symm, trivial⟩ (VOk.g (VOk.arith (op := .sub) (k := .i64) (a := (a1.length : Int)) (b := 1) rfl rfl rfl rfl)))) ?_
            refine OpsOk.consI rfl rfl rfl (.one rfl) rfl (fun hw58 => (GOk.fr (fr' := [(82, (.v (.int .i64 ((rd t18 x10_20).length : Int)))), (85, (.v (.int .i64 (IntKind.i64.wrap ((a1.length : Int) - 1)))))]) ⟨DLe.of_eq (cT hw58).symm, DLe.of_eq (cT hw58).symm, trivial⟩ (VOk.g (VOk.arith (op := .neq) (k := .i64) (a := ((rd t18 x10_20).length : Int)) (b := (IntKind.i64.wrap ((a1.length : Int) - 1))) rfl rfl rfl rfl)))) ?_
            refine OpsOk.cons rfl (.v (VOk.to (VOk.pickI (b := ((!t54.2) || (t54.1.Kind != 1))) (p := true) (q := (((rd t18 x10_20).length : Int) != (IntKind.i64.wrap ((a1.length : Int) - 1)))) rfl rfl (fun hp60 => rfl) (fun hp60 => (cT (f_beq hp60)))) (pickOr ((!t54.2) || (t54.1.Kind != 1)) (((rd t18 x10_20).length : Int) != (IntKind.i64.wrap ((a1.length : Int) - 1))))) rfl) ?_
            exact .done (.mk ⟨.same _, .same _, .same _, .same _, .same _, .same _, .same _, trivial⟩ ⟨.same _, .same _, trivial⟩)
          refine Ok.test (b := (((!t54.2) || (t54.1.Kind != 1)) || (((rd t18 x10_20).length : Int) != (IntKind.i64.wrap ((a1.length : Int) - 1))))) rfl (fun hb61 => ?_) (fun hb61 => ?_)
          · replace H := ifT H hb61
            refine Ok.seq ?_
            refine Ok.region (σ' := ⟨[(8, (.v (.bool false)))], []⟩) ?_ ?_
            · refine OpsOk.cons rfl (.v (VOk.asg (d := (.v (.bool false))) rfl rfl) rfl) ?_
              exact .done (.mk ⟨.same _, trivial⟩ trivial)
            refine Ok.le (σ' := ⟨[(8, (.v (.bool false)))], []⟩) (.mk ⟨.same _, trivial⟩ trivial) ?_
            refine Ok.ret ?_
            obtain rfl := Option.some.inj H
            exact ⟨.inl rfl, ⟨_, (.cons (.tmp rfl) .nil), rfl⟩, trivial⟩
          · replace H := ifF H hb61
            refine Ok.le (σ' := ⟨[(1, (L 9 e_api_Step a1)), (2, (.v (.int .i64 a2))), (4, (.bref 4 0)), (7, (.bref 7 0)), (9, (L 1 (eL 1 (eI .i64)) t18)), (10, (.v (.int .i64 x10_20)))], [(4, (.box true [(.v (.int .i64 y4_0_21)), (S y4_1_22), (S y4_2_23), (L 3 e_api_Attr y4_3_24), (L 6 e_api_Node y4_4_25), (S y4_5_26)])), (7, (.box true [(.v (.int .i64 y7_0_27)), (.v (.bool y7_1_28)), (S y7_2_29), (S y7_3_30), (.v (.int .i64 y7_4_31)), (.v (.bool y7_5_32)), (S y7_6_33), (S y7_7_34), (S y7_8_35)]))]⟩) (.mk ⟨.same _, .same _, .same _, .same _, .same _, .same _, trivial⟩ ⟨.same _, .same _, trivial⟩) ?_
            refine Ok.skip ?_
            refine Ok.region (σ' := ⟨[(1, (L 9 e_api_Step a1)), (2, (.v (.int .i64 a2))), (4, (.bref 4 0)), (7, (.bref 7 0)), (9, (L 1 (eL 1 (eI .i64)) t18)), (10, (.v (.int .i64 (IntKind.i64.wrap (x10_20 + 1)))))], [(4, (.box true [(.v (.int .i64 y4_0_21)), (S y4_1_22), (S y4_2_23), (L 3 e_api_Attr y4_3_24), (L 6 e_api_Node y4_4_25), (S y4_5_26)])), (7, (.box true [(.v (.int .i64 y7_0_27)), (.v (.bool y7_1_28)), (S y7_2_29), (S y7_3_30), (.v (.int .i64 y7_4_31)), (.v (.bool y7_5_32)), (S y7_6_33), (S y7_7_34), (S y7_8_35)]))]⟩) ?_ ?_
            · refine OpsOk.cons rfl (.v (VOk.mv (d := (.v (.int .i64 x10_20))) rfl rfl) rfl) ?_
              refine OpsOk.cons rfl (.v (VOk.arith (op := .add) (k := .i64) (a := x10_20) (b := 1) rfl rfl rfl rfl) rfl) ?_
              refine OpsOk.cons rfl (.v (VOk.asg (d := (.v (.int .i64 (IntKind.i64.wrap (x10_20 + 1))))) rfl rfl) rfl) ?_
              exact .done (.mk ⟨.same _, .same _, .same _, .same _, .same _, .same _, trivial⟩ ⟨.same _, .same _, trivial⟩)
            exact ⟨m52, Nat.lt_succ_self m52, y4_0_21, y4_1_22, y4_2_23, y4_3_24, y4_4_25, y4_5_26, y7_0_27, y7_1_28, y7_2_29, y7_3_30, y7_4_31, y7_5_32, y7_6_33, y7_7_34, y7_8_35, (IntKind.i64.wrap (x10_20 + 1)), rfl, H⟩
        · replace H := ifF H hb210
          refine Ok.le (σ' := ⟨[(1, (L 9 e_api_Step a1)), (2, (.v (.int .i64 a2))), (4, (.bref 4 0)), (7, (.bref 7 0)), (9, (L 1 (eL 1 (eI .i64)) t18))], [(4, (.box true [(.v (.int .i64 y4_0_21)), (S y4_1_22), (S y4_2_23), (L 3 e_api_Attr y4_3_24), (L 6 e_api_Node y4_4_25), (S y4_5_26)])), (7, (.box true [(.v (.int .i64 y7_0_27)), (.v (.bool y7_1_28)), (S y7_2_29), (S y7_3_30), (.v (.int .i64 y7_4_31)), (.v (.bool y7_5_32)), (S y7_6_33), (S y7_7_34), (S y7_8_35)]))]⟩) (.mk ⟨.same _, .same _, .same _, .same _, .same _, trivial⟩ ⟨.same _, .same _, trivial⟩) ?_
          refine Ok.exit ?_
          refine Ok.seq ?_
          refine Ok.seq ?_
          refine Ok.region (σ' := ⟨[(1, (L 9 e_api_Step a1)), (2, (.v (.int .i64 a2))), (4, (.bref 4 0)), (7, (.bref 7 0)), (9, (L 1 (eL 1 (eI .i64)) t18)), (13, (.v (.int .i64 0)))], [(4, (.box true [(.v (.int .i64 y4_0_21)), (S y4_1_22), (S y4_2_23), (L 3 e_api_Attr y4_3_24), (L 6 e_api_Node y4_4_25), (S y4_5_26)])), (7, (.box true [(.v (.int .i64 y7_0_27)), (.v (.bool y7_1_28)), (S y7_2_29), (S y7_3_30), (.v (.int .i64 y7_4_31)), (.v (.bool y7_5_32)), (S y7_6_33), (S y7_7_34), (S y7_8_35)]))]⟩) ?_ ?_
          · refine OpsOk.cons rfl (.v (VOk.asg (d := (.v (.int .i64 0))) rfl rfl) rfl) ?_
            exact .done (.mk ⟨.same _, .same _, .same _, .same _, .same _, .same _, trivial⟩ ⟨.same _, .same _, trivial⟩)
          refine Ok.block ?_
          refine Ok.le (σ' := ⟨[(1, (L 9 e_api_Step a1)), (2, (.v (.int .i64 a2))), (4, (.bref 4 0)), (7, (.bref 7 0)), (9, (L 1 (eL 1 (eI .i64)) t18)), (13, (.v (.int .i64 0)))], [(4, (.box true [(.v (.int .i64 y4_0_21)), (S y4_1_22), (S y4_2_23), (L 3 e_api_Attr y4_3_24), (L 6 e_api_Node y4_4_25), (S y4_5_26)])), (7, (.box true [(.v (.int .i64 y7_0_27)), (.v (.bool y7_1_28)), (S y7_2_29), (S y7_3_30), (.v (.int .i64 y7_4_31)), (.v (.bool y7_5_32)), (S y7_6_33), (S y7_7_34), (S y7_8_35)]))]⟩) (.mk ⟨.same _, .same _, .same _, .same _, .same _, .same _, trivial⟩ ⟨.same _, .same _, trivial⟩) ?_
          refine Ok.loop (fun m94 σ => ∃ (y4_0_63 : Int) (y4_1_64 : Str) (y4_2_65 : Str) (y4_3_66 : List T_api_Attr) (y4_4_67 : List T_api_Node) (y4_5_68 : Str) (y7_0_69 : Int) (y7_1_70 : Bool) (y7_2_71 : Str) (y7_3_72 : Str) (y7_4_73 : Int) (y7_5_74 : Bool) (y7_6_75 : Str) (y7_7_76 : Str) (y7_8_77 : Str) (x13_62 : Int), σ = ⟨[(1, (L 9 e_api_Step a1)), (2, (.v (.int .i64 a2))), (4, (.bref 4 0)), (7, (.bref 7 0)), (9, (L 1 (eL 1 (eI .i64)) t18)), (13, (.v (.int .i64 x13_62)))], [(4, (.box true [(.v (.int .i64 y4_0_63)), (S y4_1_64), (S y4_2_65), (L 3 e_api_Attr y4_3_66), (L 6 e_api_Node y4_4_67), (S y4_5_68)])), (7, (.box true [(.v (.int .i64 y7_0_69)), (.v (.bool y7_1_70)), (S y7_2_71), (S y7_3_72), (.v (.int .i64 y7_4_73)), (.v (.bool y7_5_74)), (S y7_6_75), (S y7_7_76), (S y7_8_77)]))]⟩ ∧ watchbilllaw12_MatchLess.l1 k a1 a2 t18 m94 y4_0_63 y4_1_64 y4_2_65 y4_3_66 y4_4_67 y4_5_68 y7_0_69 y7_1_70 y7_2_71 y7_3_72 y7_4_73 y7_5_74 y7_6_75 y7_7_76 y7_8_77 x13_62 = some r) k ⟨y4_0_21, y4_1_22, y4_2_23, y4_3_24, y4_4_25, y4_5_26, y7_0_27, y7_1_28, y7_2_29, y7_3_30, y7_4_31, y7_5_32, y7_6_33, y7_7_34, y7_8_35, 0, rfl, H⟩ ?_
          rintro m94 σ ⟨y4_0_63, y4_1_64, y4_2_65, y4_3_66, y4_4_67, y4_5_68, y7_0_69, y7_1_70, y7_2_71, y7_3_72, y7_4_73, y7_5_74, y7_6_75, y7_7_76, y7_8_77, x13_62, rfl, H⟩
          cases m94 with
          | zero => exact absurd H (by simp [watchbilllaw12_MatchLess.l1])
          | succ m94 =>
            unfold watchbilllaw12_MatchLess.l1 at H
            refine Ok.seq ?_
            refine Ok.seq ?_
            refine Ok.region (σ' := ⟨[(1, (L 9 e_api_Step a1)), (2, (.v (.int .i64 a2))), (4, (.bref 4 0)), (7, (.bref 7 0)), (9, (L 1 (eL 1 (eI .i64)) t18)), (13, (.v (.int .i64 x13_62))), (89, (.v (.bool (decide (x13_62 < 3)))))], [(4, (.box true [(.v (.int .i64 y4_0_63)), (S y4_1_64), (S y4_2_65), (L 3 e_api_Attr y4_3_66), (L 6 e_api_Node y4_4_67), (S y4_5_68)])), (7, (.box true [(.v (.int .i64 y7_0_69)), (.v (.bool y7_1_70)), (S y7_2_71), (S y7_3_72), (.v (.int .i64 y7_4_73)), (.v (.bool y7_5_74)), (S y7_6_75), (S y7_7_76), (S y7_8_77)]))]⟩) ?_ ?_
            · refine OpsOk.cons rfl (.v (VOk.mv (d := (.v (.int .i64 x13_62))) rfl rfl) rfl) ?_
              refine OpsOk.cons rfl (.v (VOk.arith (op := .lss) (k := .i64) (a := x13_62) (b := 3) rfl rfl rfl rfl) rfl) ?_
              exact .done (.mk ⟨.same _, .same _, .same _, .same _, .same _, .same _, .same _, trivial⟩ ⟨.same _, .same _, trivial⟩)
            refine Ok.test (b := (decide (x13_62 < 3))) rfl (fun hb209 => ?_) (fun hb209 => ?_)
            · replace H := ifT H hb209
              refine Ok.le (σ' := ⟨[(1, (L 9 e_api_Step a1)), (2, (.v (.int .i64 a2))), (4, (.bref 4 0)), (7, (.bref 7 0)), (9, (L 1 (eL 1 (eI .i64)) t18)), (13, (.v (.int .i64 x13_62)))], [(4, (.box true [(.v (.int .i64 y4_0_63)), (S y4_1_64), (S y4_2_65), (L 3 e_api_Attr y4_3_66), (L 6 e_api_Node y4_4_67), (S y4_5_68)])), (7, (.box true [(.v (.int .i64 y7_0_69)), (.v (.bool y7_1_70)), (S y7_2_71), (S y7_3_72), (.v (.int .i64 y7_4_73)), (.v (.bool y7_5_74)), (S y7_6_75), (S y7_7_76), (S y7_8_77)]))]⟩) (.mk ⟨.same _, .same _, .same _, .same _, .same _, .same _, trivial⟩ ⟨.same _, .same _, trivial⟩) ?_
              refine Ok.skip ?_
              refine Ok.seq ?_
              refine Ok.block ?_
              refine Ok.seq ?_
              obtain ⟨c95, H⟩ := assertE H
              refine Ok.region (σ' := ⟨[(1, (L 9 e_api_Step a1)), (2, (.v (.int .i64 a2))), (4, (.bref 4 0)), (7, (.bref 7 0)), (9, (L 1 (eL 1 (eI .i64)) t18)), (13, (.v (.int .i64 x13_62))), (14, (.sref 92))], [(4, (.box true [(.v (.int .i64 y4_0_63)), (S y4_1_64), (S y4_2_65), (L 3 e_api_Attr y4_3_66), (L 6 e_api_Node y4_4_67), (S y4_5_68)])), (7, (.box true [(.v (.int .i64 y7_0_69)), (.v (.bool y7_1_70)), (S y7_2_71), (S y7_3_72), (.v (.int .i64 y7_4_73)), (.v (.bool y7_5_74)), (S y7_6_75), (S y7_7_76), (S y7_8_77)])), (92, (.rows true 30 9 ((([] : List T_api_Step) ++ a1).map e_api_Step)))]⟩) ?_ ?_
              · refine OpsOk.cons rfl (OpOk.litT 92 rfl rfl Try.underlying28 sz30 zs30 rfl (rows := ([] : List T_api_Step).map e_api_Step) rfl rfl rfl rfl) ?_
                refine OpsOk.cons rfl (.v (VOk.mv (d := (L 9 e_api_Step a1)) rfl rfl) rfl) ?_
                refine OpsOk.cons rfl (OpOk.appendL (e := e_api_Step) (xs := ([] : List T_api_Step)) (ys := a1) rfl Try.underlying28 elt30 rfl rfl rfl c95 rfl) ?_
                refine OpsOk.cons rfl (.v (VOk.asg (d := (.sref 92)) rfl rfl) rfl) ?_
                exact .done (.mk ⟨.same _, .same _, .same _, .same _, .same _, .same _, .same _, trivial⟩ ⟨.same _, .same _, .same _, trivial⟩)
              refine Ok.meet (fun σ => ∃ (y92_96 : List T_api_Step), σ = ⟨[(1, (L 9 e_api_Step a1)), (2, (.v (.int .i64 a2))), (4, (.bref 4 0)), (7, (.bref 7 0)), (9, (L 1 (eL 1 (eI .i64)) t18)), (13, (.v (.int .i64 x13_62))), (14, (.sref 92))], [(4, (.box true [(.v (.int .i64 y4_0_63)), (S y4_1_64), (S y4_2_65), (L 3 e_api_Attr y4_3_66), (L 6 e_api_Node y4_4_67), (S y4_5_68)])), (7, (.box true [(.v (.int .i64 y7_0_69)), (.v (.bool y7_1_70)), (S y7_2_71), (S y7_3_72), (.v (.int .i64 y7_4_73)), (.v (.bool y7_5_74)), (S y7_6_75), (S y7_7_76), (S y7_8_77)])), (92, (.rows true 30 9 (y92_96.map e_api_Step)))]⟩ ∧ watchbilllaw12_MatchLess.j4 k (watchbilllaw12_MatchLess.l1 k a1 a2 t18 m94) a1 a2 t18 y4_0_63 y4_1_64 y4_2_65 y4_3_66 y4_4_67 y4_5_68 y7_0_69 y7_1_70 y7_2_71 y7_3_72 y7_4_73 y7_5_74 y7_6_75 y7_7_76 y7_8_77 x13_62 y92_96 = some r) ?_ ?_
              · refine Ok.block ?_
                refine Ok.seq ?_
                obtain ⟨c177, H⟩ := assertE H
                refine Ok.region (σ' := ⟨[(1, (L 9 e_api_Step a1)), (2, (.v (.int .i64 a2))), (4, (.bref 4 0)), (7, (.bref 7 0)), (9, (L 1 (eL 1 (eI .i64)) t18)), (13, (.v (.int .i64 x13_62))), (14, (.sref 92)), (95, (.v (.bool (((x13_62 == 0) && (((rd (([] : List T_api_Step) ++ a1) a2).Pos) == 0)) && (decide (y7_4_73 > 0))))))], [(4, (.box true [(.v (.int .i64 y4_0_63)), (S y4_1_64), (S y4_2_65), (L 3 e_api_Attr y4_3_66), (L 6 e_api_Node y4_4_67), (S y4_5_68)])), (7, (.box true [(.v (.int .i64 y7_0_69)), (.v (.bool y7_1_70)), (S y7_2_71), (S y7_3_72), (.v (.int .i64 y7_4_73)), (.v (.bool y7_5_74)), (S y7_6_75), (S y7_7_76), (S y7_8_77)])), (92, (.rows true 30 9 ((([] : List T_api_Step) ++ a1).map e_api_Step)))]⟩) ?_ ?_
                · refine OpsOk.cons rfl (.v (VOk.mv (d := (.v (.int .i64 x13_62))) rfl rfl) rfl) ?_
                  refine OpsOk.cons rfl (.v (VOk.arith (op := .eql) (k := .i64) (a := x13_62) (b := 0) rfl rfl rfl rfl) rfl) ?_
                  refine OpsOk.cons rfl (.v (VOk.mv (d := (.v (.bool (x13_62 == 0)))) rfl rfl) rfl) ?_
                  refine OpsOk.consI rfl rfl rfl (.one rfl) rfl (fun hw176 => (VOk.g (VOk.mv (d := (.sref 92)) rfl rfl))) ?_
                  refine OpsOk.consI rfl rfl rfl (.one rfl) rfl (fun hw176 => (VOk.g (VOk.mv (d := (.v (.int .i64 a2))) rfl rfl))) ?_
                  refine OpsOk.consI rfl rfl rfl (.one rfl) rfl (fun hw176 => (GOk.fr (fr' := [(99, (.sref 92)), (100, (.v (.int .i64 a2)))]) ⟨DLe.of_eq (cT hw176).symm, DLe.of_eq (cT hw176).symm, trivial⟩ (VOk.g (VOk.indexTL (e := e_api_Step) (xs := (([] : List T_api_Step) ++ a1)) (i := a2) rfl Try.underlying28 sz30 rfl rfl rfl (c177 hw176))))) ?_
                  refine OpsOk.consI rfl rfl rfl (.one rfl) rfl (fun hw176 => (GOk.fr (fr' := [(101, (.eref 92 (Int.toNat a2) 0))]) ⟨DLe.of_eq (cT hw176).symm, trivial⟩ (VOk.g (VOk.to (VOk.fieldE rfl Try.underlying30 rfl sz3 rfl rfl) rfl)))) ?_
                  refine OpsOk.consI rfl rfl rfl (.one rfl) rfl (fun hw176 => (GOk.fr (fr' := [(102, (.eref 92 (Int.toNat a2) 4))]) ⟨DLe.of_eq (cT hw176).symm, trivial⟩ (VOk.g (VOk.loadE (d := (.v (.int .i64 ((rd (([] : List T_api_Step) ++ a1) a2).Pos)))) rfl Try.underlying3 rfl rfl rfl (row_rd (c177 hw176)) rfl)))) ?_
                  refine OpsOk.consI rfl rfl rfl (.one rfl) rfl (fun hw176 => (GOk.fr (fr' := [(103, (.v (.int .i64 ((rd (([] : List T_api_Step) ++ a1) a2).Pos))))]) ⟨DLe.of_eq (cT hw176).symm, trivial⟩ (VOk.g (VOk.arith (op := .eql) (k := .i64) (a := (rd (([] : List T_api_Step) ++ a1) a2).Pos) (b := 0) rfl rfl rfl rfl)))) ?_
                  refine OpsOk.cons rfl (.v (VOk.to (VOk.pickI (b := (x13_62 == 0)) (p := (((rd (([] : List T_api_Step) ++ a1) a2).Pos) == 0)) (q := false) rfl rfl (fun hp178 => (cT (t_beq hp178))) (fun hp178 => rfl)) (pickAnd (x13_62 == 0) (((rd (([] : List T_api_Step) ++ a1) a2).Pos) == 0))) rfl) ?_
                  refine OpsOk.cons rfl (.v (VOk.mv (d := (.v (.bool ((x13_62 == 0) && (((rd (([] : List T_api_Step) ++ a1) a2).Pos) == 0))))) rfl rfl) rfl) ?_
                  refine OpsOk.consI rfl rfl rfl (.one rfl) rfl (fun hw179 => (VOk.g (VOk.to (VOk.fieldB rfl Try.underlying30 rfl sz3 rfl rfl) rfl))) ?_
                  refine OpsOk.consI rfl rfl rfl (.one rfl) rfl (fun hw179 => (GOk.fr (fr' := [(107, (.bref 7 4))]) ⟨DLe.of_eq (cT hw179).symm, trivial⟩ (VOk.g (VOk.loadB (d := (.v (.int .i64 y7_4_73))) rfl Try.underlying3 rfl rfl rfl rfl)))) ?_
                  refine OpsOk.consI rfl rfl rfl (.one rfl) rfl (fun hw179 => (GOk.fr (fr' := [(108, (.v (.int .i64 y7_4_73)))]) ⟨DLe.of_eq (cT hw179).symm, trivial⟩ (VOk.g (VOk.arith (op := .gtr) (k := .i64) (a := y7_4_73) (b := 0) rfl rfl rfl rfl)))) ?_
                  refine OpsOk.cons rfl (.v (VOk.to (VOk.pickI (b := ((x13_62 == 0) && (((rd (([] : List T_api_Step) ++ a1) a2).Pos) == 0))) (p := (decide (y7_4_73 > 0))) (q := false) rfl rfl (fun hp180 => (cT (t_beq hp180))) (fun hp180 => rfl)) (pickAnd ((x13_62 == 0) && (((rd (([] : List T_api_Step) ++ a1) a2).Pos) == 0)) (decide (y7_4_73 > 0)))) rfl) ?_
                  refine OpsOk.cons rfl (.v (VOk.asg (d := (.v (.bool (((x13_62 == 0) && (((rd (([] : List T_api_Step) ++ a1) a2).Pos) == 0)) && (decide (y7_4_73 > 0)))))) rfl rfl) rfl) ?_
                  exact .done (.mk ⟨.same _, .same _, .same _, .same _, .same _, .same _, .same _, .same _, trivial⟩ ⟨.same _, .same _, .same _, trivial⟩)
                refine Ok.test (b := (((x13_62 == 0) && (((rd (([] : List T_api_Step) ++ a1) a2).Pos) == 0)) && (decide (y7_4_73 > 0)))) rfl (fun hb208 => ?_) (fun hb208 => ?_)
                · replace H := ifT H hb208
                  obtain ⟨c181, H⟩ := assertE H
                  obtain ⟨t182, h183, H⟩ := bindE H
                  refine Ok.region (σ' := ⟨[(1, (L 9 e_api_Step a1)), (2, (.v (.int .i64 a2))), (4, (.bref 4 0)), (7, (.bref 7 0)), (9, (L 1 (eL 1 (eI .i64)) t18)), (13, (.v (.int .i64 x13_62))), (14, (.sref 92))], [(4, (.box true [(.v (.int .i64 y4_0_63)), (S y4_1_64), (S y4_2_65), (L 3 e_api_Attr y4_3_66), (L 6 e_api_Node y4_4_67), (S y4_5_68)])), (7, (.box true [(.v (.int .i64 y7_0_69)), (.v (.bool y7_1_70)), (S y7_2_71), (S y7_3_72), (.v (.int .i64 y7_4_73)), (.v (.bool y7_5_74)), (S y7_6_75), (S y7_7_76), (S y7_8_77)])), (92, (.rows true 30 9 (t182.map e_api_Step)))]⟩) ?_ ?_
                  · refine OpsOk.cons rfl (.v (VOk.mv (d := (.sref 92)) rfl rfl) rfl) ?_
                    refine OpsOk.cons rfl (.v (VOk.mv (d := (.v (.int .i64 a2))) rfl rfl) rfl) ?_
                    refine OpsOk.cons rfl (.v (VOk.to (VOk.fieldB rfl Try.underlying30 rfl sz3 rfl rfl) rfl) rfl) ?_
                    refine OpsOk.cons rfl (.v (VOk.loadB (d := (.v (.int .i64 y7_4_73))) rfl Try.underlying3 rfl rfl rfl rfl) rfl) ?_
                    refine OpsOk.cons rfl (.v (VOk.indexTL (e := e_api_Step) (xs := (([] : List T_api_Step) ++ a1)) (i := a2) rfl Try.underlying28 sz30 rfl rfl rfl c181) rfl) ?_
                    refine OpsOk.cons rfl (.v (VOk.to (VOk.fieldE rfl Try.underlying30 rfl sz3 rfl rfl) rfl) rfl) ?_
                    refine OpsOk.cons rfl (OpOk.storeEL (e := e_api_Step) (xs := (([] : List T_api_Step) ++ a1)) (i := a2) (y := (T_api_Step.mk ((rd (([] : List T_api_Step) ++ a1) a2).Kind) ((rd (([] : List T_api_Step) ++ a1) a2).Any) (T_api_Name.mk ((rd (([] : List T_api_Step) ++ a1) a2).Name.Space) ((rd (([] : List T_api_Step) ++ a1) a2).Name.Local)) y7_4_73 ((rd (([] : List T_api_Step) ++ a1) a2).By) (T_api_Name.mk ((rd (([] : List T_api_Step) ++ a1) a2).Attr.Space) ((rd (([] : List T_api_Step) ++ a1) a2).Attr.Local)) ((rd (([] : List T_api_Step) ++ a1) a2).Value))) rfl sz3 (.same _) rfl c181 (.same _) rfl rfl rfl rfl rfl (Option.some.inj h183)) ?_
                    exact .done (.mk ⟨.same _, .same _, .same _, .same _, .same _, .same _, .same _, trivial⟩ ⟨.same _, .same _, .same _, trivial⟩)
                  exact ⟨t182, rfl, H⟩
                · replace H := ifF H hb208
                  refine Ok.seq ?_
                  obtain ⟨c185, H⟩ := assertE H
                  refine Ok.region (σ' := ⟨[(1, (L 9 e_api_Step a1)), (2, (.v (.int .i64 a2))), (4, (.bref 4 0)), (7, (.bref 7 0)), (9, (L 1 (eL 1 (eI .i64)) t18)), (13, (.v (.int .i64 x13_62))), (14, (.sref 92)), (117, (.v (.bool ((x13_62 == 1) && (!((rd (([] : List T_api_Step) ++ a1) a2).By))))))], [(4, (.box true [(.v (.int .i64 y4_0_63)), (S y4_1_64), (S y4_2_65), (L 3 e_api_Attr y4_3_66), (L 6 e_api_Node y4_4_67), (S y4_5_68)])), (7, (.box true [(.v (.int .i64 y7_0_69)), (.v (.bool y7_1_70)), (S y7_2_71), (S y7_3_72), (.v (.int .i64 y7_4_73)), (.v (.bool y7_5_74)), (S y7_6_75), (S y7_7_76), (S y7_8_77)])), (92, (.rows true 30 9 ((([] : List T_api_Step) ++ a1).map e_api_Step)))]⟩) ?_ ?_
                  · refine OpsOk.cons rfl (.v (VOk.mv (d := (.v (.int .i64 x13_62))) rfl rfl) rfl) ?_
                    refine OpsOk.cons rfl (.v (VOk.arith (op := .eql) (k := .i64) (a := x13_62) (b := 1) rfl rfl rfl rfl) rfl) ?_
                    refine OpsOk.cons rfl (.v (VOk.mv (d := (.v (.bool (x13_62 == 1)))) rfl rfl) rfl) ?_
                    refine OpsOk.consI rfl rfl rfl (.one rfl) rfl (fun hw184 => (VOk.g (VOk.mv (d := (.sref 92)) rfl rfl))) ?_
                    refine OpsOk.consI rfl rfl rfl (.one rfl) rfl (fun hw184 => (VOk.g (VOk.mv (d := (.v (.int .i64 a2))) rfl rfl))) ?_
                    refine OpsOk.consI rfl rfl rfl (.one rfl) rfl (fun hw184 => (GOk.fr (fr' := [(121, (.sref 92)), (122, (.v (.int .i64 a2)))]) ⟨DLe.of_eq (cT hw184).symm, DLe.of_eq (cT hw184).symm, trivial⟩ (VOk.g (VOk.indexTL (e := e_api_Step) (xs := (([] : List T_api_Step) ++ a1)) (i := a2) rfl Try.underlying28 sz30 rfl rfl rfl (c185 hw184))))) ?_
                    refine OpsOk.consI rfl rfl rfl (.one rfl) rfl (fun hw184 => (GOk.fr (fr' := [(123, (.eref 92 (Int.toNat a2) 0))]) ⟨DLe.of_eq (cT hw184).symm, trivial⟩ (VOk.g (VOk.to (VOk.fieldE rfl Try.underlying30 rfl sz4 rfl rfl) rfl)))) ?_
                    refine OpsOk.consI rfl rfl rfl (.one rfl) rfl (fun hw184 => (GOk.fr (fr' := [(124, (.eref 92 (Int.toNat a2) 5))]) ⟨DLe.of_eq (cT hw184).symm, trivial⟩ (VOk.g (VOk.loadE (d := (.v (.bool ((rd (([] : List T_api_Step) ++ a1) a2).By)))) rfl Try.underlying4 rfl rfl rfl (row_rd (c185 hw184)) rfl)))) ?_
                    refine OpsOk.consI rfl rfl rfl (.one rfl) rfl (fun hw184 => (GOk.fr (fr' := [(125, (.v (.bool ((rd (([] : List T_api_Step) ++ a1) a2).By))))]) ⟨DLe.of_eq (cT hw184).symm, trivial⟩ (VOk.g (VOk.not (b := (rd (([] : List T_api_Step) ++ a1) a2).By) rfl rfl)))) ?_
                    refine OpsOk.cons rfl (.v (VOk.to (VOk.pickI (b := (x13_62 == 1)) (p := (!((rd (([] : List T_api_Step) ++ a1) a2).By))) (q := false) rfl rfl (fun hp186 => (cT (t_beq hp186))) (fun hp186 => rfl)) (pickAnd (x13_62 == 1) (!((rd (([] : List T_api_Step) ++ a1) a2).By)))) rfl) ?_
                    refine OpsOk.cons rfl (.v (VOk.asg (d := (.v (.bool ((x13_62 == 1) && (!((rd (([] : List T_api_Step) ++ a1) a2).By)))))) rfl rfl) rfl) ?_
                    exact .done (.mk ⟨.same _, .same _, .same _, .same _, .same _, .same _, .same _, .same _, trivial⟩ ⟨.same _, .same _, .same _, trivial⟩)
                  refine Ok.test (b := ((x13_62 == 1) && (!((rd (([] : List T_api_Step) ++ a1) a2).By)))) rfl (fun hb207 => ?_) (fun hb207 => ?_)
                  · replace H := ifT H hb207
                    refine Ok.seq ?_
                    obtain ⟨c187, H⟩ := assertE H
                    obtain ⟨t188, h189, H⟩ := bindE H
                    refine Ok.region (σ' := ⟨[(1, (L 9 e_api_Step a1)), (2, (.v (.int .i64 a2))), (4, (.bref 4 0)), (7, (.bref 7 0)), (9, (L 1 (eL 1 (eI .i64)) t18)), (13, (.v (.int .i64 x13_62))), (14, (.sref 92))], [(4, (.box true [(.v (.int .i64 y4_0_63)), (S y4_1_64), (S y4_2_65), (L 3 e_api_Attr y4_3_66), (L 6 e_api_Node y4_4_67), (S y4_5_68)])), (7, (.box true [(.v (.int .i64 y7_0_69)), (.v (.bool y7_1_70)), (S y7_2_71), (S y7_3_72), (.v (.int .i64 y7_4_73)), (.v (.bool y7_5_74)), (S y7_6_75), (S y7_7_76), (S y7_8_77)])), (92, (.rows true 30 9 (t188.map e_api_Step)))]⟩) ?_ ?_
                    · refine OpsOk.cons rfl (.v (VOk.mv (d := (.sref 92)) rfl rfl) rfl) ?_
                      refine OpsOk.cons rfl (.v (VOk.mv (d := (.v (.int .i64 a2))) rfl rfl) rfl) ?_
                      refine OpsOk.cons rfl (.v (VOk.indexTL (e := e_api_Step) (xs := (([] : List T_api_Step) ++ a1)) (i := a2) rfl Try.underlying28 sz30 rfl rfl rfl c187) rfl) ?_
                      refine OpsOk.cons rfl (.v (VOk.to (VOk.fieldE rfl Try.underlying30 rfl sz4 rfl rfl) rfl) rfl) ?_
                      refine OpsOk.cons rfl (OpOk.storeEL (e := e_api_Step) (xs := (([] : List T_api_Step) ++ a1)) (i := a2) (y := (T_api_Step.mk ((rd (([] : List T_api_Step) ++ a1) a2).Kind) ((rd (([] : List T_api_Step) ++ a1) a2).Any) (T_api_Name.mk ((rd (([] : List T_api_Step) ++ a1) a2).Name.Space) ((rd (([] : List T_api_Step) ++ a1) a2).Name.Local)) ((rd (([] : List T_api_Step) ++ a1) a2).Pos) true (T_api_Name.mk ((rd (([] : List T_api_Step) ++ a1) a2).Attr.Space) ((rd (([] : List T_api_Step) ++ a1) a2).Attr.Local)) ((rd (([] : List T_api_Step) ++ a1) a2).Value))) rfl sz4 (.same _) rfl c187 (.same _) rfl rfl rfl rfl rfl (Option.some.inj h189)) ?_
                      exact .done (.mk ⟨.same _, .same _, .same _, .same _, .same _, .same _, .same _, trivial⟩ ⟨.same _, .same _, .same _, trivial⟩)
                    refine Ok.seq ?_
                    obtain ⟨c190, H⟩ := assertE H
                    obtain ⟨t191, h192, H⟩ := bindE H
                    refine Ok.region (σ' := ⟨[(1, (L 9 e_api_Step a1)), (2, (.v (.int .i64 a2))), (4, (.bref 4 0)), (7, (.bref 7 0)), (9, (L 1 (eL 1 (eI .i64)) t18)), (13, (.v (.int .i64 x13_62))), (14, (.sref 92))], [(4, (.box true [(.v (.int .i64 y4_0_63)), (S y4_1_64), (S y4_2_65), (L 3 e_api_Attr y4_3_66), (L 6 e_api_Node y4_4_67), (S y4_5_68)])), (7, (.box true [(.v (.int .i64 y7_0_69)), (.v (.bool y7_1_70)), (S y7_2_71), (S y7_3_72), (.v (.int .i64 y7_4_73)), (.v (.bool y7_5_74)), (S y7_6_75), (S y7_7_76), (S y7_8_77)])), (92, (.rows true 30 9 (t191.map e_api_Step)))]⟩) ?_ ?_
                    · refine OpsOk.cons rfl (.v (VOk.mv (d := (.sref 92)) rfl rfl) rfl) ?_
                      refine OpsOk.cons rfl (.v (VOk.mv (d := (.v (.int .i64 a2))) rfl rfl) rfl) ?_
                      refine OpsOk.cons rfl (.v (VOk.to (VOk.fieldB rfl Try.underlying30 rfl sz23 rfl rfl) rfl) rfl) ?_
                      refine OpsOk.cons rfl (.v (VOk.to (d' := (.agg (e_api_Name (T_api_Name.mk y7_6_75 y7_7_76)))) (.loadBAgg rfl Try.underlying23 rfl sz23 rfl rfl rfl) rfl) rfl) ?_
                      refine OpsOk.cons rfl (.v (VOk.indexTL (e := e_api_Step) (xs := t188) (i := a2) rfl Try.underlying28 sz30 rfl rfl rfl c190) rfl) ?_
                      refine OpsOk.cons rfl (.v (VOk.to (VOk.fieldE rfl Try.underlying30 rfl sz23 rfl rfl) rfl) rfl) ?_
                      refine OpsOk.cons rfl (OpOk.storeEL (e := e_api_Step) (xs := t188) (i := a2) (y := (T_api_Step.mk ((rd t188 a2).Kind) ((rd t188 a2).Any) (T_api_Name.mk ((rd t188 a2).Name.Space) ((rd t188 a2).Name.Local)) ((rd t188 a2).Pos) ((rd t188 a2).By) (T_api_Name.mk ((T_api_Name.mk y7_6_75 y7_7_76).Space) ((T_api_Name.mk y7_6_75 y7_7_76).Local)) ((rd t188 a2).Value))) rfl sz23 (.same _) rfl c190 (.same _) rfl rfl rfl rfl rfl (Option.some.inj h192)) ?_
                      exact .done (.mk ⟨.same _, .same _, .same _, .same _, .same _, .same _, .same _, trivial⟩ ⟨.same _, .same _, .same _, trivial⟩)
                    obtain ⟨c193, H⟩ := assertE H
                    refine Ok.region (σ' := ⟨[(1, (L 9 e_api_Step a1)), (2, (.v (.int .i64 a2))), (4, (.bref 4 0)), (7, (.bref 7 0)), (9, (L 1 (eL 1 (eI .i64)) t18)), (13, (.v (.int .i64 x13_62))), (14, (.sref 92))], [(4, (.box true [(.v (.int .i64 y4_0_63)), (S y4_1_64), (S y4_2_65), (L 3 e_api_Attr y4_3_66), (L 6 e_api_Node y4_4_67), (S y4_5_68)])), (7, (.box true [(.v (.int .i64 y7_0_69)), (.v (.bool y7_1_70)), (S y7_2_71), (S y7_3_72), (.v (.int .i64 y7_4_73)), (.v (.bool y7_5_74)), (S y7_6_75), (S y7_7_76), (S y7_8_77)])), (92, (.rows true 30 9 ((t191.set (Int.toNat a2) (T_api_Step.mk ((rd t191 a2).Kind) ((rd t191 a2).Any) (T_api_Name.mk ((rd t191 a2).Name.Space) ((rd t191 a2).Name.Local)) ((rd t191 a2).Pos) ((rd t191 a2).By) (T_api_Name.mk ((rd t191 a2).Attr.Space) ((rd t191 a2).Attr.Local)) y7_8_77)).map e_api_Step)))]⟩) ?_ ?_
                    · refine OpsOk.cons rfl (.v (VOk.mv (d := (.sref 92)) rfl rfl) rfl) ?_
                      refine OpsOk.cons rfl (.v (VOk.mv (d := (.v (.int .i64 a2))) rfl rfl) rfl) ?_
                      refine OpsOk.cons rfl (.v (VOk.to (VOk.fieldB rfl Try.underlying30 rfl sz9 rfl rfl) rfl) rfl) ?_
                      refine OpsOk.cons rfl (.v (VOk.loadB (d := (S y7_8_77)) rfl Try.underlying9 rfl rfl rfl rfl) rfl) ?_
                      refine OpsOk.cons rfl (.v (VOk.indexTL (e := e_api_Step) (xs := t191) (i := a2) rfl Try.underlying28 sz30 rfl rfl rfl c193) rfl) ?_
                      refine OpsOk.cons rfl (.v (VOk.to (VOk.fieldE rfl Try.underlying30 rfl sz9 rfl rfl) rfl) rfl) ?_
                      refine OpsOk.cons rfl (OpOk.storeEL (e := e_api_Step) (xs := t191) (i := a2) (y := (T_api_Step.mk ((rd t191 a2).Kind) ((rd t191 a2).Any) (T_api_Name.mk ((rd t191 a2).Name.Space) ((rd t191 a2).Name.Local)) ((rd t191 a2).Pos) ((rd t191 a2).By) (T_api_Name.mk ((rd t191 a2).Attr.Space) ((rd t191 a2).Attr.Local)) y7_8_77)) rfl sz9 (.same _) rfl c193 (.same _) rfl rfl rfl rfl rfl rfl) ?_
                      exact .done (.mk ⟨.same _, .same _, .same _, .same _, .same _, .same _, .same _, trivial⟩ ⟨.same _, .same _, .same _, trivial⟩)
                    exact ⟨(t191.set (Int.toNat a2) (T_api_Step.mk ((rd t191 a2).Kind) ((rd t191 a2).Any) (T_api_Name.mk ((rd t191 a2).Name.Space) ((rd t191 a2).Name.Local)) ((rd t191 a2).Pos) ((rd t191 a2).By) (T_api_Name.mk ((rd t191 a2).Attr.Space) ((rd t191 a2).Attr.Local)) y7_8_77)), rfl, H⟩
                  · replace H := ifF H hb207
                    refine Ok.seq ?_
                    obtain ⟨c195, H⟩ := assertE H
                    obtain ⟨c198, H⟩ := assertE H
                    refine Ok.region (σ' := ⟨[(1, (L 9 e_api_Step a1)), (2, (.v (.int .i64 a2))), (4, (.bref 4 0)), (7, (.bref 7 0)), (9, (L 1 (eL 1 (eI .i64)) t18)), (13, (.v (.int .i64 x13_62))), (14, (.sref 92)), (144, (.v (.bool (((x13_62 == 2) && ((rd (([] : List T_api_Step) ++ a1) a2).Any)) && (((rd (([] : List T_api_Step) ++ a1) a2).Pos) == 0)))))], [(4, (.box true [(.v (.int .i64 y4_0_63)), (S y4_1_64), (S y4_2_65), (L 3 e_api_Attr y4_3_66), (L 6 e_api_Node y4_4_67), (S y4_5_68)])), (7, (.box true [(.v (.int .i64 y7_0_69)), (.v (.bool y7_1_70)), (S y7_2_71), (S y7_3_72), (.v (.int .i64 y7_4_73)), (.v (.bool y7_5_74)), (S y7_6_75), (S y7_7_76), (S y7_8_77)])), (92, (.rows true 30 9 ((([] : List T_api_Step) ++ a1).map e_api_Step)))]⟩) ?_ ?_
                    · refine OpsOk.cons rfl (.v (VOk.mv (d := (.v (.int .i64 x13_62))) rfl rfl) rfl) ?_
                      refine OpsOk.cons rfl (.v (VOk.arith (op := .eql) (k := .i64) (a := x13_62) (b := 2) rfl rfl rfl rfl) rfl) ?_
                      refine OpsOk.cons rfl (.v (VOk.mv (d := (.v (.bool (x13_62 == 2)))) rfl rfl) rfl) ?_
                      refine OpsOk.consI rfl rfl rfl (.one rfl) rfl (fun hw194 => (VOk.g (VOk.mv (d := (.sref 92)) rfl rfl))) ?_
                      refine OpsOk.consI rfl rfl rfl (.one rfl) rfl (fun hw194 => (VOk.g (VOk.mv (d := (.v (.int .i64 a2))) rfl rfl))) ?_
                      refine OpsOk.consI rfl rfl rfl (.one rfl) rfl (fun hw194 => (GOk.fr (fr' := [(148, (.sref 92)), (149, (.v (.int .i64 a2)))]) ⟨DLe.of_eq (cT hw194).symm, DLe.of_eq (cT hw194).symm, trivial⟩ (VOk.g (VOk.indexTL (e := e_api_Step) (xs := (([] : List T_api_Step) ++ a1)) (i := a2) rfl Try.underlying28 sz30 rfl rfl rfl (c195 hw194))))) ?_
                      refine OpsOk.consI rfl rfl rfl (.one rfl) rfl (fun hw194 => (GOk.fr (fr' := [(150, (.eref 92 (Int.toNat a2) 0))]) ⟨DLe.of_eq (cT hw194).symm, trivial⟩ (VOk.g (VOk.to (VOk.fieldE rfl Try.underlying30 rfl sz4 rfl rfl) rfl)))) ?_
                      refine OpsOk.consI rfl rfl rfl (.one rfl) rfl (fun hw194 => (GOk.fr (fr' := [(151, (.eref 92 (Int.toNat a2) 1))]) ⟨DLe.of_eq (cT hw194).symm, trivial⟩ (VOk.g (VOk.loadE (d := (.v (.bool ((rd (([] : List T_api_Step) ++ a1) a2).Any)))) rfl Try.underlying4 rfl rfl rfl (row_rd (c195 hw194)) rfl)))) ?_
                      refine OpsOk.cons rfl (.v (VOk.to (VOk.pickI (b := (x13_62 == 2)) (p := (rd (([] : List T_api_Step) ++ a1) a2).Any) (q := false) rfl rfl (fun hp196 => (cT (t_beq hp196))) (fun hp196 => rfl)) (pickAnd (x13_62 == 2) ((rd (([] : List T_api_Step) ++ a1) a2).Any))) rfl) ?_
                      refine OpsOk.cons rfl (.v (VOk.mv (d := (.v (.bool ((x13_62 == 2) && ((rd (([] : List T_api_Step) ++ a1) a2).Any))))) rfl rfl) rfl) ?_
                      refine OpsOk.consI rfl rfl rfl (.one rfl) rfl (fun hw197 => (VOk.g (VOk.mv (d := (.sref 92)) rfl rfl))) ?_
                      refine OpsOk.consI rfl rfl rfl (.one rfl) rfl (fun hw197 => (VOk.g (VOk.mv (d := (.v (.int .i64 a2))) rfl rfl))) ?_
                      refine OpsOk.consI rfl rfl rfl (.one rfl) rfl (fun hw197 => (GOk.fr (fr' := [(155, (.sref 92)), (156, (.v (.int .i64 a2)))]) ⟨DLe.of_eq (cT hw197).symm, DLe.of_eq (cT hw197).symm, trivial⟩ (VOk.g (VOk.indexTL (e := e_api_Step) (xs := (([] : List T_api_Step) ++ a1)) (i := a2) rfl Try.underlying28 sz30 rfl rfl rfl (c198 hw197))))) ?_
                      refine OpsOk.consI rfl rfl rfl (.one rfl) rfl (fun hw197 => (GOk.fr (fr' := [(157, (.eref 92 (Int.toNat a2) 0))]) ⟨DLe.of_eq (cT hw197).symm, trivial⟩ (VOk.g (VOk.to (VOk.fieldE rfl Try.underlying30 rfl sz3 rfl rfl) rfl)))) ?_
                      refine OpsOk.consI rfl rfl rfl (.one rfl) rfl (fun hw197 => (GOk.fr (fr' := [(158, (.eref 92 (Int.toNat a2) 4))]) ⟨DLe.of_eq (cT hw197).symm, trivial⟩ (VOk.g (VOk.loadE (d := (.v (.int .i64 ((rd (([] : List T_api_Step) ++ a1) a2).Pos)))) rfl Try.underlying3 rfl rfl rfl (row_rd (c198 hw197)) rfl)))) ?_
                      refine OpsOk.consI rfl rfl rfl (.one rfl) rfl (fun hw197 => (GOk.fr (fr' := [(159, (.v (.int .i64 ((rd (([] : List T_api_Step) ++ a1) a2).Pos))))]) ⟨DLe.of_eq (cT hw197).symm, trivial⟩ (VOk.g (VOk.arith (op := .eql) (k := .i64) (a := (rd (([] : List T_api_Step) ++ a1) a2).Pos) (b := 0) rfl rfl rfl rfl)))) ?_
                      refine OpsOk.cons rfl (.v (VOk.to (VOk.pickI (b := ((x13_62 == 2) && ((rd (([] : List T_api_Step) ++ a1) a2).Any))) (p := (((rd (([] : List T_api_Step) ++ a1) a2).Pos) == 0)) (q := false) rfl rfl (fun hp199 => (cT (t_beq hp199))) (fun hp199 => rfl)) (pickAnd ((x13_62 == 2) && ((rd (([] : List T_api_Step) ++ a1) a2).Any)) (((rd (([] : List T_api_Step) ++ a1) a2).Pos) == 0))) rfl) ?_
                      refine OpsOk.cons rfl (.v (VOk.asg (d := (.v (.bool (((x13_62 == 2) && ((rd (([] : List T_api_Step) ++ a1) a2).Any)) && (((rd (([] : List T_api_Step) ++ a1) a2).Pos) == 0))))) rfl rfl) rfl) ?_
                      exact .done (.mk ⟨.same _, .same _, .same _, .same _, .same _, .same _, .same _, .same _, trivial⟩ ⟨.same _, .same _, .same _, trivial⟩)
                    refine Ok.test (b := (((x13_62 == 2) && ((rd (([] : List T_api_Step) ++ a1) a2).Any)) && (((rd (([] : List T_api_Step) ++ a1) a2).Pos) == 0))) rfl (fun hb206 => ?_) (fun hb206 => ?_)
                    · replace H := ifT H hb206
                      refine Ok.seq ?_
                      obtain ⟨c200, H⟩ := assertE H
                      obtain ⟨t201, h202, H⟩ := bindE H
                      refine Ok.region (σ' := ⟨[(1, (L 9 e_api_Step a1)), (2, (.v (.int .i64 a2))), (4, (.bref 4 0)), (7, (.bref 7 0)), (9, (L 1 (eL 1 (eI .i64)) t18)), (13, (.v (.int .i64 x13_62))), (14, (.sref 92))], [(4, (.box true [(.v (.int .i64 y4_0_63)), (S y4_1_64), (S y4_2_65), (L 3 e_api_Attr y4_3_66), (L 6 e_api_Node y4_4_67), (S y4_5_68)])), (7, (.box true [(.v (.int .i64 y7_0_69)), (.v (.bool y7_1_70)), (S y7_2_71), (S y7_3_72), (.v (.int .i64 y7_4_73)), (.v (.bool y7_5_74)), (S y7_6_75), (S y7_7_76), (S y7_8_77)])), (92, (.rows true 30 9 (t201.map e_api_Step)))]⟩) ?_ ?_
                      · refine OpsOk.cons rfl (.v (VOk.mv (d := (.sref 92)) rfl rfl) rfl) ?_
                        refine OpsOk.cons rfl (.v (VOk.mv (d := (.v (.int .i64 a2))) rfl rfl) rfl) ?_
                        refine OpsOk.cons rfl (.v (VOk.indexTL (e := e_api_Step) (xs := (([] : List T_api_Step) ++ a1)) (i := a2) rfl Try.underlying28 sz30 rfl rfl rfl c200) rfl) ?_
                        refine OpsOk.cons rfl (.v (VOk.to (VOk.fieldE rfl Try.underlying30 rfl sz4 rfl rfl) rfl) rfl) ?_
                        refine OpsOk.cons rfl (OpOk.storeEL (e := e_api_Step) (xs := (([] : List T_api_Step) ++ a1)) (i := a2) (y := (T_api_Step.mk ((rd (([] : List T_api_Step) ++ a1) a2).Kind) false (T_api_Name.mk ((rd (([] : List T_api_Step) ++ a1) a2).Name.Space) ((rd (([] : List T_api_Step) ++ a1) a2).Name.Local)) ((rd (([] : List T_api_Step) ++ a1) a2).Pos) ((rd (([] : List T_api_Step) ++ a1) a2).By) (T_api_Name.mk ((rd (([] : List T_api_Step) ++ a1) a2).Attr.Space) ((rd (([] : List T_api_Step) ++ a1) a2).Attr.Local)) ((rd (([] : List T_api_Step) ++ a1) a2).Value))) rfl sz4 (.same _) rfl c200 (.same _) rfl rfl rfl rfl rfl (Option.some.inj h202)) ?_
                        exact .done (.mk ⟨.same _, .same _, .same _, .same _, .same _, .same _, .same _, trivial⟩ ⟨.same _, .same _, .same _, trivial⟩)
                      obtain ⟨c203, H⟩ := assertE H
                      obtain ⟨t204, h205, H⟩ := bindE H
                      refine Ok.region (σ' := ⟨[(1, (L 9 e_api_Step a1)), (2, (.v (.int .i64 a2))), (4, (.bref 4 0)), (7, (.bref 7 0)), (9, (L 1 (eL 1 (eI .i64)) t18)), (13, (.v (.int .i64 x13_62))), (14, (.sref 92))], [(4, (.box true [(.v (.int .i64 y4_0_63)), (S y4_1_64), (S y4_2_65), (L 3 e_api_Attr y4_3_66), (L 6 e_api_Node y4_4_67), (S y4_5_68)])), (7, (.box true [(.v (.int .i64 y7_0_69)), (.v (.bool y7_1_70)), (S y7_2_71), (S y7_3_72), (.v (.int .i64 y7_4_73)), (.v (.bool y7_5_74)), (S y7_6_75), (S y7_7_76), (S y7_8_77)])), (92, (.rows true 30 9 (t204.map e_api_Step)))]⟩) ?_ ?_
                      · refine OpsOk.cons rfl (.v (VOk.mv (d := (.sref 92)) rfl rfl) rfl) ?_
                        refine OpsOk.cons rfl (.v (VOk.mv (d := (.v (.int .i64 a2))) rfl rfl) rfl) ?_
                        refine OpsOk.cons rfl (.v (VOk.to (VOk.fieldB rfl Try.underlying30 rfl sz23 rfl rfl) rfl) rfl) ?_
                        refine OpsOk.cons rfl (.v (VOk.to (d' := (.agg (e_api_Name (T_api_Name.mk y7_2_71 y7_3_72)))) (.loadBAgg rfl Try.underlying23 rfl sz23 rfl rfl rfl) rfl) rfl) ?_
                        refine OpsOk.cons rfl (.v (VOk.indexTL (e := e_api_Step) (xs := t201) (i := a2) rfl Try.underlying28 sz30 rfl rfl rfl c203) rfl) ?_
                        refine OpsOk.cons rfl (.v (VOk.to (VOk.fieldE rfl Try.underlying30 rfl sz23 rfl rfl) rfl) rfl) ?_
                        refine OpsOk.cons rfl (OpOk.storeEL (e := e_api_Step) (xs := t201) (i := a2) (y := (T_api_Step.mk ((rd t201 a2).Kind) ((rd t201 a2).Any) (T_api_Name.mk ((T_api_Name.mk y7_2_71 y7_3_72).Space) ((T_api_Name.mk y7_2_71 y7_3_72).Local)) ((rd t201 a2).Pos) ((rd t201 a2).By) (T_api_Name.mk ((rd t201 a2).Attr.Space) ((rd t201 a2).Attr.Local)) ((rd t201 a2).Value))) rfl sz23 (.same _) rfl c203 (.same _) rfl rfl rfl rfl rfl (Option.some.inj h205)) ?_
                        exact .done (.mk ⟨.same _, .same _, .same _, .same _, .same _, .same _, .same _, trivial⟩ ⟨.same _, .same _, .same _, trivial⟩)
                      exact ⟨t204, rfl, H⟩
                    · replace H := ifF H hb206
                      refine Ok.le (σ' := ⟨[(1, (L 9 e_api_Step a1)), (2, (.v (.int .i64 a2))), (4, (.bref 4 0)), (7, (.bref 7 0)), (9, (L 1 (eL 1 (eI .i64)) t18)), (13, (.v (.int .i64 x13_62))), (14, (.sref 92))], [(4, (.box true [(.v (.int .i64 y4_0_63)), (S y4_1_64), (S y4_2_65), (L 3 e_api_Attr y4_3_66), (L 6 e_api_Node y4_4_67), (S y4_5_68)])), (7, (.box true [(.v (.int .i64 y7_0_69)), (.v (.bool y7_1_70)), (S y7_2_71), (S y7_3_72), (.v (.int .i64 y7_4_73)), (.v (.bool y7_5_74)), (S y7_6_75), (S y7_7_76), (S y7_8_77)])), (92, (.rows true 30 9 ((([] : List T_api_Step) ++ a1).map e_api_Step)))]⟩) (.mk ⟨.same _, .same _, .same _, .same _, .same _, .same _, .same _, trivial⟩ ⟨.same _, .same _, .same _, trivial⟩) ?_
                      refine Ok.skip ?_
                      exact ⟨(([] : List T_api_Step) ++ a1), rfl, H⟩
              · rintro σ ⟨y92_96, rfl, H⟩
                unfold watchbilllaw12_MatchLess.j4 at H
                refine Ok.seq ?_
                obtain ⟨t97, h98, H⟩ := bindE H
                refine Ok.frzL 92 (e := e_api_Step) (xs := y92_96) rfl ?_
                refine Ok.region (σ' := ⟨[(1, (L 9 e_api_Step a1)), (2, (.v (.int .i64 a2))), (4, (.bref 4 0)), (7, (.bref 7 0)), (9, (L 1 (eL 1 (eI .i64)) t18)), (13, (.v (.int .i64 x13_62))), (15, (L 1 (eL 1 (eI .i64)) t97))], [(4, (.box true [(.v (.int .i64 y4_0_63)), (S y4_1_64), (S y4_2_65), (L 3 e_api_Attr y4_3_66), (L 6 e_api_Node y4_4_67), (S y4_5_68)])), (7, (.box true [(.v (.int .i64 y7_0_69)), (.v (.bool y7_1_70)), (S y7_2_71), (S y7_3_72), (.v (.int .i64 y7_4_73)), (.v (.bool y7_5_74)), (S y7_6_75), (S y7_7_76), (S y7_8_77)]))]⟩) ?_ ?_
                · refine OpsOk.cons rfl (.v (VOk.to (d' := (.agg (e_api_Node (T_api_Node.mk y4_0_63 (T_api_Name.mk y4_1_64 y4_2_65) y4_3_66 y4_4_67 y4_5_68)))) (.loadBAgg rfl Try.underlying27 rfl sz27 rfl rfl rfl) (congrArg D.agg (e_api_Node_c (T_api_Node.mk y4_0_63 (T_api_Name.mk y4_1_64 y4_2_65) y4_3_66 y4_4_67 y4_5_68)).symm)) rfl) ?_
                  refine OpsOk.cons rfl (.v (VOk.mv (d := (L 9 e_api_Step y92_96)) rfl rfl) rfl) ?_
                  refine OpsOk.cons rfl (.g (GOk.call rfl rfl cl10 rfl (match_Find.ok h98) rfl) rfl) ?_
                  refine OpsOk.cons rfl (.v (VOk.asg (d := (L 1 (eL 1 (eI .i64)) t97)) rfl rfl) rfl) ?_
                  exact .done (.mk ⟨.same _, .same _, .same _, .same _, .same _, .same _, .same _, trivial⟩ ⟨.same _, .same _, trivial⟩)
                refine Ok.seq ?_
                refine Ok.region (σ' := ⟨[(1, (L 9 e_api_Step a1)), (2, (.v (.int .i64 a2))), (4, (.bref 4 0)), (7, (.bref 7 0)), (9, (L 1 (eL 1 (eI .i64)) t18)), (13, (.v (.int .i64 x13_62))), (15, (L 1 (eL 1 (eI .i64)) t97)), (16, (.v (.int .i64 0)))], [(4, (.box true [(.v (.int .i64 y4_0_63)), (S y4_1_64), (S y4_2_65), (L 3 e_api_Attr y4_3_66), (L 6 e_api_Node y4_4_67), (S y4_5_68)])), (7, (.box true [(.v (.int .i64 y7_0_69)), (.v (.bool y7_1_70)), (S y7_2_71), (S y7_3_72), (.v (.int .i64 y7_4_73)), (.v (.bool y7_5_74)), (S y7_6_75), (S y7_7_76), (S y7_8_77)]))]⟩) ?_ ?_
                · refine OpsOk.cons rfl (.v (VOk.asg (d := (.v (.int .i64 0))) rfl rfl) rfl) ?_
                  exact .done (.mk ⟨.same _, .same _, .same _, .same _, .same _, .same _, .same _, .same _, trivial⟩ ⟨.same _, .same _, trivial⟩)
                refine Ok.block ?_
                refine Ok.le (σ' := ⟨[(1, (L 9 e_api_Step a1)), (2, (.v (.int .i64 a2))), (4, (.bref 4 0)), (7, (.bref 7 0)), (9, (L 1 (eL 1 (eI .i64)) t18)), (13, (.v (.int .i64 x13_62))), (15, (L 1 (eL 1 (eI .i64)) t97)), (16, (.v (.int .i64 0)))], [(4, (.box true [(.v (.int .i64 y4_0_63)), (S y4_1_64), (S y4_2_65), (L 3 e_api_Attr y4_3_66), (L 6 e_api_Node y4_4_67), (S y4_5_68)])), (7, (.box true [(.v (.int .i64 y7_0_69)), (.v (.bool y7_1_70)), (S y7_2_71), (S y7_3_72), (.v (.int .i64 y7_4_73)), (.v (.bool y7_5_74)), (S y7_6_75), (S y7_7_76), (S y7_8_77)]))]⟩) (.mk ⟨.same _, .same _, .same _, .same _, .same _, .same _, .same _, .same _, trivial⟩ ⟨.same _, .same _, trivial⟩) ?_
                refine Ok.loop (fun m131 σ => ∃ (y4_0_100 : Int) (y4_1_101 : Str) (y4_2_102 : Str) (y4_3_103 : List T_api_Attr) (y4_4_104 : List T_api_Node) (y4_5_105 : Str) (y7_0_106 : Int) (y7_1_107 : Bool) (y7_2_108 : Str) (y7_3_109 : Str) (y7_4_110 : Int) (y7_5_111 : Bool) (y7_6_112 : Str) (y7_7_113 : Str) (y7_8_114 : Str) (x16_99 : Int), σ = ⟨[(1, (L 9 e_api_Step a1)), (2, (.v (.int .i64 a2))), (4, (.bref 4 0)), (7, (.bref 7 0)), (9, (L 1 (eL 1 (eI .i64)) t18)), (13, (.v (.int .i64 x13_62))), (15, (L 1 (eL 1 (eI .i64)) t97)), (16, (.v (.int .i64 x16_99)))], [(4, (.box true [(.v (.int .i64 y4_0_100)), (S y4_1_101), (S y4_2_102), (L 3 e_api_Attr y4_3_103), (L 6 e_api_Node y4_4_104), (S y4_5_105)])), (7, (.box true [(.v (.int .i64 y7_0_106)), (.v (.bool y7_1_107)), (S y7_2_108), (S y7_3_109), (.v (.int .i64 y7_4_110)), (.v (.bool y7_5_111)), (S y7_6_112), (S y7_7_113), (S y7_8_114)]))]⟩ ∧ watchbilllaw12_MatchLess.l2 k (watchbilllaw12_MatchLess.l1 k a1 a2 t18 m94) a1 a2 t18 x13_62 t97 m131 y4_0_100 y4_1_101 y4_2_102 y4_3_103 y4_4_104 y4_5_105 y7_0_106 y7_1_107 y7_2_108 y7_3_109 y7_4_110 y7_5_111 y7_6_112 y7_7_113 y7_8_114 x16_99 = some r) k ⟨y4_0_63, y4_1_64, y4_2_65, y4_3_66, y4_4_67, y4_5_68, y7_0_69, y7_1_70, y7_2_71, y7_3_72, y7_4_73, y7_5_74, y7_6_75, y7_7_76, y7_8_77, 0, rfl, H⟩ ?_
                rintro m131 σ ⟨y4_0_100, y4_1_101, y4_2_102, y4_3_103, y4_4_104, y4_5_105, y7_0_106, y7_1_107, y7_2_108, y7_3_109, y7_4_110, y7_5_111, y7_6_112, y7_7_113, y7_8_114, x16_99, rfl, H⟩
                cases m131 with
                | zero => exact absurd H (by simp [watchbilllaw12_MatchLess.l2])
                | succ m131 =>
                  unfold watchbilllaw12_MatchLess.l2 at H
                  refine Ok.seq ?_
                  refine Ok.seq ?_
                  refine Ok.region (σ' := ⟨[(1, (L 9 e_api_Step a1)), (2, (.v (.int .i64 a2))), (4, (.bref 4 0)), (7, (.bref 7 0)), (9, (L 1 (eL 1 (eI .i64)) t18)), (13, (.v (.int .i64 x13_62))), (15, (L 1 (eL 1 (eI .i64)) t97)), (16, (.v (.int .i64 x16_99))), (178, (.v (.bool (decide (x16_99 < (t97.length : Int))))))], [(4, (.box true [(.v (.int .i64 y4_0_100)), (S y4_1_101), (S y4_2_102), (L 3 e_api_Attr y4_3_103), (L 6 e_api_Node y4_4_104), (S y4_5_105)])), (7, (.box true [(.v (.int .i64 y7_0_106)), (.v (.bool y7_1_107)), (S y7_2_108), (S y7_3_109), (.v (.int .i64 y7_4_110)), (.v (.bool y7_5_111)), (S y7_6_112), (S y7_7_113), (S y7_8_114)]))]⟩) ?_ ?_
                  · refine OpsOk.cons rfl (.v (VOk.mv (d := (.v (.int .i64 x16_99))) rfl rfl) rfl) ?_
                    refine OpsOk.cons rfl (.v (VOk.mv (d := (L 1 (eL 1 (eI .i64)) t97)) rfl rfl) rfl) ?_
                    refine OpsOk.cons rfl (.v (VOk.lenL (e := (eL 1 (eI .i64))) (xs := t97) rfl Try.underlying34 rfl) rfl) ?_
                    refine OpsOk.cons rfl (.v (VOk.arith (op := .lss) (k := .i64) (a := x16_99) (b := (t97.length : Int)) rfl rfl rfl rfl) rfl) ?_
                    exact .done (.mk ⟨.same _, .same _, .same _, .same _, .same _, .same _, .same _, .same _, .same _, trivial⟩ ⟨.same _, .same _, trivial⟩)
                  refine Ok.test (b := (decide (x16_99 < (t97.length : Int)))) rfl (fun hb175 => ?_) (fun hb175 => ?_)
                  · replace H := ifT H hb175
                    refine Ok.le (σ' := ⟨[(1, (L 9 e_api_Step a1)), (2, (.v (.int .i64 a2))), (4, (.bref 4 0)), (7, (.bref 7 0)), (9, (L 1 (eL 1 (eI .i64)) t18)), (13, (.v (.int .i64 x13_62))), (15, (L 1 (eL 1 (eI .i64)) t97)), (16, (.v (.int .i64 x16_99)))], [(4, (.box true [(.v (.int .i64 y4_0_100)), (S y4_1_101), (S y4_2_102), (L 3 e_api_Attr y4_3_103), (L 6 e_api_Node y4_4_104), (S y4_5_105)])), (7, (.box true [(.v (.int .i64 y7_0_106)), (.v (.bool y7_1_107)), (S y7_2_108), (S y7_3_109), (.v (.int .i64 y7_4_110)), (.v (.bool y7_5_111)), (S y7_6_112), (S y7_7_113), (S y7_8_114)]))]⟩) (.mk ⟨.same _, .same _, .same _, .same _, .same _, .same _, .same _, .same _, trivial⟩ ⟨.same _, .same _, trivial⟩) ?_
                    refine Ok.skip ?_
                    refine Ok.seq ?_
                    refine Ok.block ?_
                    refine Ok.seq ?_
                    refine Ok.region (σ' := ⟨[(1, (L 9 e_api_Step a1)), (2, (.v (.int .i64 a2))), (4, (.bref 4 0)), (7, (.bref 7 0)), (9, (L 1 (eL 1 (eI .i64)) t18)), (13, (.v (.int .i64 x13_62))), (15, (L 1 (eL 1 (eI .i64)) t97)), (16, (.v (.int .i64 x16_99))), (17, (.v (.bool false)))], [(4, (.box true [(.v (.int .i64 y4_0_100)), (S y4_1_101), (S y4_2_102), (L 3 e_api_Attr y4_3_103), (L 6 e_api_Node y4_4_104), (S y4_5_105)])), (7, (.box true [(.v (.int .i64 y7_0_106)), (.v (.bool y7_1_107)), (S y7_2_108), (S y7_3_109), (.v (.int .i64 y7_4_110)), (.v (.bool y7_5_111)), (S y7_6_112), (S y7_7_113), (S y7_8_114)]))]⟩) ?_ ?_
                    · refine OpsOk.cons rfl (.v (VOk.asg (d := (.v (.bool false))) rfl rfl) rfl) ?_
                      exact .done (.mk ⟨.same _, .same _, .same _, .same _, .same _, .same _, .same _, .same _, .same _, trivial⟩ ⟨.same _, .same _, trivial⟩)
                    refine Ok.seq ?_
                    refine Ok.seq ?_
                    refine Ok.region (σ' := ⟨[(1, (L 9 e_api_Step a1)), (2, (.v (.int .i64 a2))), (4, (.bref 4 0)), (7, (.bref 7 0)), (9, (L 1 (eL 1 (eI .i64)) t18)), (13, (.v (.int .i64 x13_62))), (15, (L 1 (eL 1 (eI .i64)) t97)), (16, (.v (.int .i64 x16_99))), (17, (.v (.bool false))), (18, (.v (.int .i64 0)))], [(4, (.box true [(.v (.int .i64 y4_0_100)), (S y4_1_101), (S y4_2_102), (L 3 e_api_Attr y4_3_103), (L 6 e_api_Node y4_4_104), (S y4_5_105)])), (7, (.box true [(.v (.int .i64 y7_0_106)), (.v (.bool y7_1_107)), (S y7_2_108), (S y7_3_109), (.v (.int .i64 y7_4_110)), (.v (.bool y7_5_111)), (S y7_6_112), (S y7_7_113), (S y7_8_114)]))]⟩) ?_ ?_
                    · refine OpsOk.cons rfl (.v (VOk.asg (d := (.v (.int .i64 0))) rfl rfl) rfl) ?_
                      exact .done (.mk ⟨.same _, .same _, .same _, .same _, .same _, .same _, .same _, .same _, .same _, .same _, trivial⟩ ⟨.same _, .same _, trivial⟩)
                    refine Ok.block ?_
                    refine Ok.le (σ' := ⟨[(1, (L 9 e_api_Step a1)), (2, (.v (.int .i64 a2))), (4, (.bref 4 0)), (7, (.bref 7 0)), (9, (L 1 (eL 1 (eI .i64)) t18)), (13, (.v (.int .i64 x13_62))), (15, (L 1 (eL 1 (eI .i64)) t97)), (16, (.v (.int .i64 x16_99))), (17, (.v (.bool false))), (18, (.v (.int .i64 0)))], [(4, (.box true [(.v (.int .i64 y4_0_100)), (S y4_1_101), (S y4_2_102), (L 3 e_api_Attr y4_3_103), (L 6 e_api_Node y4_4_104), (S y4_5_105)])), (7, (.box true [(.v (.int .i64 y7_0_106)), (.v (.bool y7_1_107)), (S y7_2_108), (S y7_3_109), (.v (.int .i64 y7_4_110)), (.v (.bool y7_5_111)), (S y7_6_112), (S y7_7_113), (S y7_8_114)]))]⟩) (.mk ⟨.same _, .same _, .same _, .same _, .same _, .same _, .same _, .same _, .same _, .same _, trivial⟩ ⟨.same _, .same _, trivial⟩) ?_
                    refine Ok.loop (fun m166 σ => ∃ (y4_0_134 : Int) (y4_1_135 : Str) (y4_2_136 : Str) (y4_3_137 : List T_api_Attr) (y4_4_138 : List T_api_Node) (y4_5_139 : Str) (y7_0_140 : Int) (y7_1_141 : Bool) (y7_2_142 : Str) (y7_3_143 : Str) (y7_4_144 : Int) (y7_5_145 : Bool) (y7_6_146 : Str) (y7_7_147 : Str) (y7_8_148 : Str) (x17_132 : Bool) (x18_133 : Int), σ = ⟨[(1, (L 9 e_api_Step a1)), (2, (.v (.int .i64 a2))), (4, (.bref 4 0)), (7, (.bref 7 0)), (9, (L 1 (eL 1 (eI .i64)) t18)), (13, (.v (.int .i64 x13_62))), (15, (L 1 (eL 1 (eI .i64)) t97)), (16, (.v (.int .i64 x16_99))), (17, (.v (.bool x17_132))), (18, (.v (.int .i64 x18_133)))], [(4, (.box true [(.v (.int .i64 y4_0_134)), (S y4_1_135), (S y4_2_136), (L 3 e_api_Attr y4_3_137), (L 6 e_api_Node y4_4_138), (S y4_5_139)])), (7, (.box true [(.v (.int .i64 y7_0_140)), (.v (.bool y7_1_141)), (S y7_2_142), (S y7_3_143), (.v (.int .i64 y7_4_144)), (.v (.bool y7_5_145)), (S y7_6_146), (S y7_7_147), (S y7_8_148)]))]⟩ ∧ watchbilllaw12_MatchLess.l3 k (watchbilllaw12_MatchLess.l2 k (watchbilllaw12_MatchLess.l1 k a1 a2 t18 m94) a1 a2 t18 x13_62 t97 m131) a1 a2 t18 x13_62 t97 x16_99 m166 y4_0_134 y4_1_135 y4_2_136 y4_3_137 y4_4_138 y4_5_139 y7_0_140 y7_1_141 y7_2_142 y7_3_143 y7_4_144 y7_5_145 y7_6_146 y7_7_147 y7_8_148 x17_132 x18_133 = some r) k ⟨y4_0_100, y4_1_101, y4_2_102, y4_3_103, y4_4_104, y4_5_105, y7_0_106, y7_1_107, y7_2_108, y7_3_109, y7_4_110, y7_5_111, y7_6_112, y7_7_113, y7_8_114, false, 0, rfl, H⟩ ?_
                    rintro m166 σ ⟨y4_0_134, y4_1_135, y4_2_136, y4_3_137, y4_4_138, y4_5_139, y7_0_140, y7_1_141, y7_2_142, y7_3_143, y7_4_144, y7_5_145, y7_6_146, y7_7_147, y7_8_148, x17_132, x18_133, rfl, H⟩
                    cases m166 with
                    | zero => exact absurd H (by simp [watchbilllaw12_MatchLess.l3])
                    | succ m166 =>
                      unfold watchbilllaw12_MatchLess.l3 at H
                      refine Ok.seq ?_
                      refine Ok.seq ?_
                      refine Ok.region (σ' := ⟨[(1, (L 9 e_api_Step a1)), (2, (.v (.int .i64 a2))), (4, (.bref 4 0)), (7, (.bref 7 0)), (9, (L 1 (eL 1 (eI .i64)) t18)), (13, (.v (.int .i64 x13_62))), (15, (L 1 (eL 1 (eI .i64)) t97)), (16, (.v (.int .i64 x16_99))), (17, (.v (.bool x17_132))), (18, (.v (.int .i64 x18_133))), (184, (.v (.bool (decide (x18_133 < (t18.length : Int))))))], [(4, (.box true [(.v (.int .i64 y4_0_134)), (S y4_1_135), (S y4_2_136), (L 3 e_api_Attr y4_3_137), (L 6 e_api_Node y4_4_138), (S y4_5_139)])), (7, (.box true [(.v (.int .i64 y7_0_140)), (.v (.bool y7_1_141)), (S y7_2_142), (S y7_3_143), (.v (.int .i64 y7_4_144)), (.v (.bool y7_5_145)), (S y7_6_146), (S y7_7_147), (S y7_8_148)]))]⟩) ?_ ?_
                      · refine OpsOk.cons rfl (.v (VOk.mv (d := (.v (.int .i64 x18_133))) rfl rfl) rfl) ?_
                        refine OpsOk.cons rfl (.v (VOk.mv (d := (L 1 (eL 1 (eI .i64)) t18)) rfl rfl) rfl) ?_
                        refine OpsOk.cons rfl (.v (VOk.lenL (e := (eL 1 (eI .i64))) (xs := t18) rfl Try.underlying34 rfl) rfl) ?_
                        refine OpsOk.cons rfl (.v (VOk.arith (op := .lss) (k := .i64) (a := x18_133) (b := (t18.length : Int)) rfl rfl rfl rfl) rfl) ?_
                        exact .done (.mk ⟨.same _, .same _, .same _, .same _, .same _, .same _, .same _, .same _, .same _, .same _, .same _, trivial⟩ ⟨.same _, .same _, trivial⟩)
                      refine Ok.test (b := (decide (x18_133 < (t18.length : Int)))) rfl (fun hb174 => ?_) (fun hb174 => ?_)
                      · replace H := ifT H hb174
                        refine Ok.le (σ' := ⟨[(1, (L 9 e_api_Step a1)), (2, (.v (.int .i64 a2))), (4, (.bref 4 0)), (7, (.bref 7 0)), (9, (L 1 (eL 1 (eI .i64)) t18)), (13, (.v (.int .i64 x13_62))), (15, (L 1 (eL 1 (eI .i64)) t97)), (16, (.v (.int .i64 x16_99))), (17, (.v (.bool x17_132))), (18, (.v (.int .i64 x18_133)))], [(4, (.box true [(.v (.int .i64 y4_0_134)), (S y4_1_135), (S y4_2_136), (L 3 e_api_Attr y4_3_137), (L 6 e_api_Node y4_4_138), (S y4_5_139)])), (7, (.box true [(.v (.int .i64 y7_0_140)), (.v (.bool y7_1_141)), (S y7_2_142), (S y7_3_143), (.v (.int .i64 y7_4_144)), (.v (.bool y7_5_145)), (S y7_6_146), (S y7_7_147), (S y7_8_148)]))]⟩) (.mk ⟨.same _, .same _, .same _, .same _, .same _, .same _, .same _, .same _, .same _, .same _, trivial⟩ ⟨.same _, .same _, trivial⟩) ?_
                        refine Ok.skip ?_
                        refine Ok.seq ?_
                        refine Ok.block ?_
                        obtain ⟨c168, H⟩ := assertE H
                        obtain ⟨c169, H⟩ := assertE H
                        obtain ⟨t170, h171, H⟩ := bindE H
                        refine Ok.drawE (σ' := ⟨[(1, (L 9 e_api_Step a1)), (2, (.v (.int .i64 a2))), (4, (.bref 4 0)), (7, (.bref 7 0)), (9, (L 1 (eL 1 (eI .i64)) t18)), (13, (.v (.int .i64 x13_62))), (15, (L 1 (eL 1 (eI .i64)) t97)), (16, (.v (.int .i64 x16_99))), (17, (.v (.bool (x17_132 || t170)))), (18, (.v (.int .i64 x18_133)))], [(4, (.box true [(.v (.int .i64 y4_0_134)), (S y4_1_135), (S y4_2_136), (L 3 e_api_Attr y4_3_137), (L 6 e_api_Node y4_4_138), (S y4_5_139)])), (7, (.box true [(.v (.int .i64 y7_0_140)), (.v (.bool y7_1_141)), (S y7_2_142), (S y7_3_143), (.v (.int .i64 y7_4_144)), (.v (.bool y7_5_145)), (S y7_6_146), (S y7_7_147), (S y7_8_148)]))]⟩) [⟨true, [(17, (.v (.bool x17_132)))], (.v (.bool x17_132))⟩, ⟨true, [(187, (.v (.bool x17_132)))], (.v (.bool x17_132))⟩, It.I (x17_132 == false) [(15, (L 1 (eL 1 (eI .i64)) t97)), (188, (.v (.bool x17_132)))] (L 1 (eL 1 (eI .i64)) t97), It.I (x17_132 == false) [(16, (.v (.int .i64 x16_99))), (188, (.v (.bool x17_132)))] (.v (.int .i64 x16_99)), It.I (x17_132 == false) [(189, (bif (x17_132 == false) then (L 1 (eL 1 (eI .i64)) t97) else .v undef)), (190, (bif (x17_132 == false) then (.v (.int .i64 x16_99)) else .v undef)), (188, (.v (.bool x17_132)))] (.fp ((eL 1 (eI .i64)) (rd t97 x16_99)) 0), It.I (x17_132 == false) [(191, (bif (x17_132 == false) then (.fp ((eL 1 (eI .i64)) (rd t97 x16_99)) 0) else .v undef)), (188, (.v (.bool x17_132)))] (L 1 (eI .i64) (rd t97 x16_99)), It.I (x17_132 == false) [(9, (L 1 (eL 1 (eI .i64)) t18)), (188, (.v (.bool x17_132)))] (L 1 (eL 1 (eI .i64)) t18), It.I (x17_132 == false) [(18, (.v (.int .i64 x18_133))), (188, (.v (.bool x17_132)))] (.v (.int .i64 x18_133)), It.I (x17_132 == false) [(193, (bif (x17_132 == false) then (L 1 (eL 1 (eI .i64)) t18) else .v undef)), (194, (bif (x17_132 == false) then (.v (.int .i64 x18_133)) else .v undef)), (188, (.v (.bool x17_132)))] (.fp ((eL 1 (eI .i64)) (rd t18 x18_133)) 0), It.I (x17_132 == false) [(195, (bif (x17_132 == false) then (.fp ((eL 1 (eI .i64)) (rd t18 x18_133)) 0) else .v undef)), (188, (.v (.bool x17_132)))] (L 1 (eI .i64) (rd t18 x18_133)), It.I (x17_132 == false) [(192, (bif (x17_132 == false) then (L 1 (eI .i64) (rd t97 x16_99)) else .v undef)), (196, (bif (x17_132 == false) then (L 1 (eI .i64) (rd t18 x18_133)) else .v undef)), (188, (.v (.bool x17_132)))] (.v (.bool t170)), ⟨true, [(188, (.v (.bool x17_132))), (197, (bif (x17_132 == false) then (.v (.bool t170)) else .v undef))], (.v (.bool (x17_132 || t170)))⟩, ⟨true, [(198, (.v (.bool (x17_132 || t170))))], (.v (.bool (x17_132 || t170)))⟩] [[], [0], [1], [1], [1, 2, 3], [1, 4], [1], [1], [1, 6, 7], [1, 8], [1, 5, 9], [1, 10], [0, 11]] mixed (by kernel_rfl) ?_ ?_
                        · refine TxtE.cons rfl ⟨.same _, trivial⟩ rfl (VOk.g (VOk.mv (d := (.v (.bool x17_132))) rfl rfl)) ?_
                          refine TxtE.cons rfl ⟨.same _, trivial⟩ rfl (VOk.g (VOk.mv (d := (.v (.bool x17_132))) rfl rfl)) ?_
                          refine TxtE.consI rfl ⟨.same _, .same _, trivial⟩ rfl rfl (.one rfl) (fun hw167 => (VOk.g (VOk.mv (d := (L 1 (eL 1 (eI .i64)) t97)) rfl rfl))) ?_
                          refine TxtE.consI rfl ⟨.same _, .same _, trivial⟩ rfl rfl (.one rfl) (fun hw167 => (VOk.g (VOk.mv (d := (.v (.int .i64 x16_99))) rfl rfl))) ?_
                          refine TxtE.consI rfl ⟨.same _, .same _, .same _, trivial⟩ rfl rfl (.one rfl) (fun hw167 => (GOk.fr (fr' := [(189, (L 1 (eL 1 (eI .i64)) t97)), (190, (.v (.int .i64 x16_99)))]) ⟨DLe.of_eq (cT hw167).symm, DLe.of_eq (cT hw167).symm, trivial⟩ (VOk.g (VOk.indexL (sz := 1) (e := (eL 1 (eI .i64))) (xs := t97) (i := x16_99) rfl Try.underlying34 sz39 rfl rfl (c168 hw167))))) ?_
                          refine TxtE.consI rfl ⟨.same _, .same _, trivial⟩ rfl rfl (.one rfl) (fun hw167 => (GOk.fr (fr' := [(191, (.fp ((eL 1 (eI .i64)) (rd t97 x16_99)) 0))]) ⟨DLe.of_eq (cT hw167).symm, trivial⟩ (VOk.g (VOk.loadFp (d := (L 1 (eI .i64) (rd t97 x16_99))) rfl Try.underlying39 rfl rfl rfl)))) ?_
                          refine TxtE.consI rfl ⟨.same _, .same _, trivial⟩ rfl rfl (.one rfl) (fun hw167 => (VOk.g (VOk.mv (d := (L 1 (eL 1 (eI .i64)) t18)) rfl rfl))) ?_
                          refine TxtE.consI rfl ⟨.same _, .same _, trivial⟩ rfl rfl (.one rfl) (fun hw167 => (VOk.g (VOk.mv (d := (.v (.int .i64 x18_133))) rfl rfl))) ?_
                          refine TxtE.consI rfl ⟨.same _, .same _, .same _, trivial⟩ rfl rfl (.one rfl) (fun hw167 => (GOk.fr (fr' := [(193, (L 1 (eL 1 (eI .i64)) t18)), (194, (.v (.int .i64 x18_133)))]) ⟨DLe.of_eq (cT hw167).symm, DLe.of_eq (cT hw167).symm, trivial⟩ (VOk.g (VOk.indexL (sz := 1) (e := (eL 1 (eI .i64))) (xs := t18) (i := x18_133) rfl Try.underlying34 sz39 rfl rfl (c169 hw167))))) ?_
                          refine TxtE.consI rfl ⟨.same _, .same _, trivial⟩ rfl rfl (.one rfl) (fun hw167 => (GOk.fr (fr' := [(195, (.fp ((eL 1 (eI .i64)) (rd t18 x18_133)) 0))]) ⟨DLe.of_eq (cT hw167).symm, trivial⟩ (VOk.g (VOk.loadFp (d := (L 1 (eI .i64) (rd t18 x18_133))) rfl Try.underlying39 rfl rfl rfl)))) ?_
                          refine TxtE.consI rfl ⟨.same _, .same _, .same _, trivial⟩ rfl rfl (.one rfl) (fun hw167 => (GOk.fr (fr' := [(192, (L 1 (eI .i64) (rd t97 x16_99))), (196, (L 1 (eI .i64) (rd t18 x18_133)))]) ⟨DLe.of_eq (cT hw167).symm, DLe.of_eq (cT hw167).symm, trivial⟩ (GOk.call rfl rfl cl14 rfl (watchbillref06_Same.ok (ifT h171 hw167)) rfl))) ?_
                          refine TxtE.cons rfl ⟨.same _, .same _, trivial⟩ rfl (VOk.g (VOk.to (VOk.pickI (b := x17_132) (p := true) (q := t170) rfl rfl (fun hp172 => rfl) (fun hp172 => (cT (f_beq hp172)))) (pickOr x17_132 t170))) ?_
                          refine TxtE.cons rfl ⟨.same _, trivial⟩ rfl (VOk.g (VOk.asg (d := (.v (.bool (x17_132 || t170)))) rfl rfl)) ?_
                          exact .done (.mk ⟨.same _, .same _, .same _, .same _, .same _, .same _, .same _, .same _, .same _, .same _, trivial⟩ ⟨.same _, .same _, trivial⟩)
                        refine Ok.region (σ' := ⟨[(1, (L 9 e_api_Step a1)), (2, (.v (.int .i64 a2))), (4, (.bref 4 0)), (7, (.bref 7 0)), (9, (L 1 (eL 1 (eI .i64)) t18)), (13, (.v (.int .i64 x13_62))), (15, (L 1 (eL 1 (eI .i64)) t97)), (16, (.v (.int .i64 x16_99))), (17, (.v (.bool (x17_132 || t170)))), (18, (.v (.int .i64 (IntKind.i64.wrap (x18_133 + 1)))))], [(4, (.box true [(.v (.int .i64 y4_0_134)), (S y4_1_135), (S y4_2_136), (L 3 e_api_Attr y4_3_137), (L 6 e_api_Node y4_4_138), (S y4_5_139)])), (7, (.box true [(.v (.int .i64 y7_0_140)), (.v (.bool y7_1_141)), (S y7_2_142), (S y7_3_143), (.v (.int .i64 y7_4_144)), (.v (.bool y7_5_145)), (S y7_6_146), (S y7_7_147), (S y7_8_148)]))]⟩) ?_ ?_
                        · refine OpsOk.cons rfl (.v (VOk.mv (d := (.v (.int .i64 x18_133))) rfl rfl) rfl) ?_
                          refine OpsOk.cons rfl (.v (VOk.arith (op := .add) (k := .i64) (a := x18_133) (b := 1) rfl rfl rfl rfl) rfl) ?_
                          refine OpsOk.cons rfl (.v (VOk.asg (d := (.v (.int .i64 (IntKind.i64.wrap (x18_133 + 1))))) rfl rfl) rfl) ?_
                          exact .done (.mk ⟨.same _, .same _, .same _, .same _, .same _, .same _, .same _, .same _, .same _, .same _, trivial⟩ ⟨.same _, .same _, trivial⟩)
                        exact ⟨m166, Nat.lt_succ_self m166, y4_0_134, y4_1_135, y4_2_136, y4_3_137, y4_4_138, y4_5_139, y7_0_140, y7_1_141, y7_2_142, y7_3_143, y7_4_144, y7_5_145, y7_6_146, y7_7_147, y7_8_148, (x17_132 || t170), (IntKind.i64.wrap (x18_133 + 1)), rfl, H⟩
                      · replace H := ifF H hb174
                        refine Ok.le (σ' := ⟨[(1, (L 9 e_api_Step a1)), (2, (.v (.int .i64 a2))), (4, (.bref 4 0)), (7, (.bref 7 0)), (9, (L 1 (eL 1 (eI .i64)) t18)), (13, (.v (.int .i64 x13_62))), (15, (L 1 (eL 1 (eI .i64)) t97)), (16, (.v (.int .i64 x16_99))), (17, (.v (.bool x17_132)))], [(4, (.box true [(.v (.int .i64 y4_0_134)), (S y4_1_135), (S y4_2_136), (L 3 e_api_Attr y4_3_137), (L 6 e_api_Node y4_4_138), (S y4_5_139)])), (7, (.box true [(.v (.int .i64 y7_0_140)), (.v (.bool y7_1_141)), (S y7_2_142), (S y7_3_143), (.v (.int .i64 y7_4_144)), (.v (.bool y7_5_145)), (S y7_6_146), (S y7_7_147), (S y7_8_148)]))]⟩) (.mk ⟨.same _, .same _, .same _, .same _, .same _, .same _, .same _, .same _, .same _, trivial⟩ ⟨.same _, .same _, trivial⟩) ?_
                        refine Ok.exit ?_
                        refine Ok.seq ?_
                        refine Ok.region (σ' := ⟨[(1, (L 9 e_api_Step a1)), (2, (.v (.int .i64 a2))), (4, (.bref 4 0)), (7, (.bref 7 0)), (9, (L 1 (eL 1 (eI .i64)) t18)), (13, (.v (.int .i64 x13_62))), (15, (L 1 (eL 1 (eI .i64)) t97)), (16, (.v (.int .i64 x16_99))), (200, (.v (.bool (!x17_132))))], [(4, (.box true [(.v (.int .i64 y4_0_134)), (S y4_1_135), (S y4_2_136), (L 3 e_api_Attr y4_3_137), (L 6 e_api_Node y4_4_138), (S y4_5_139)])), (7, (.box true [(.v (.int .i64 y7_0_140)), (.v (.bool y7_1_141)), (S y7_2_142), (S y7_3_143), (.v (.int .i64 y7_4_144)), (.v (.bool y7_5_145)), (S y7_6_146), (S y7_7_147), (S y7_8_148)]))]⟩) ?_ ?_
                        · refine OpsOk.cons rfl (.v (VOk.mv (d := (.v (.bool x17_132))) rfl rfl) rfl) ?_
                          refine OpsOk.cons rfl (.v (VOk.not (b := x17_132) rfl rfl) rfl) ?_
                          exact .done (.mk ⟨.same _, .same _, .same _, .same _, .same _, .same _, .same _, .same _, .same _, trivial⟩ ⟨.same _, .same _, trivial⟩)
                        refine Ok.test (b := (!x17_132)) rfl (fun hb173 => ?_) (fun hb173 => ?_)
                        · replace H := ifT H hb173
                          refine Ok.seq ?_
                          refine Ok.region (σ' := ⟨[(8, (.v (.bool false)))], []⟩) ?_ ?_
                          · refine OpsOk.cons rfl (.v (VOk.asg (d := (.v (.bool false))) rfl rfl) rfl) ?_
                            exact .done (.mk ⟨.same _, trivial⟩ trivial)
                          refine Ok.le (σ' := ⟨[(8, (.v (.bool false)))], []⟩) (.mk ⟨.same _, trivial⟩ trivial) ?_
                          refine Ok.ret ?_
                          obtain rfl := Option.some.inj H
                          exact ⟨.inl rfl, ⟨_, (.cons (.tmp rfl) .nil), rfl⟩, trivial⟩
                        · replace H := ifF H hb173
                          refine Ok.le (σ' := ⟨[(1, (L 9 e_api_Step a1)), (2, (.v (.int .i64 a2))), (4, (.bref 4 0)), (7, (.bref 7 0)), (9, (L 1 (eL 1 (eI .i64)) t18)), (13, (.v (.int .i64 x13_62))), (15, (L 1 (eL 1 (eI .i64)) t97)), (16, (.v (.int .i64 x16_99)))], [(4, (.box true [(.v (.int .i64 y4_0_134)), (S y4_1_135), (S y4_2_136), (L 3 e_api_Attr y4_3_137), (L 6 e_api_Node y4_4_138), (S y4_5_139)])), (7, (.box true [(.v (.int .i64 y7_0_140)), (.v (.bool y7_1_141)), (S y7_2_142), (S y7_3_143), (.v (.int .i64 y7_4_144)), (.v (.bool y7_5_145)), (S y7_6_146), (S y7_7_147), (S y7_8_148)]))]⟩) (.mk ⟨.same _, .same _, .same _, .same _, .same _, .same _, .same _, .same _, trivial⟩ ⟨.same _, .same _, trivial⟩) ?_
                          refine Ok.skip ?_
                          refine Ok.region (σ' := ⟨[(1, (L 9 e_api_Step a1)), (2, (.v (.int .i64 a2))), (4, (.bref 4 0)), (7, (.bref 7 0)), (9, (L 1 (eL 1 (eI .i64)) t18)), (13, (.v (.int .i64 x13_62))), (15, (L 1 (eL 1 (eI .i64)) t97)), (16, (.v (.int .i64 (IntKind.i64.wrap (x16_99 + 1)))))], [(4, (.box true [(.v (.int .i64 y4_0_134)), (S y4_1_135), (S y4_2_136), (L 3 e_api_Attr y4_3_137), (L 6 e_api_Node y4_4_138), (S y4_5_139)])), (7, (.box true [(.v (.int .i64 y7_0_140)), (.v (.bool y7_1_141)), (S y7_2_142), (S y7_3_143), (.v (.int .i64 y7_4_144)), (.v (.bool y7_5_145)), (S y7_6_146), (S y7_7_147), (S y7_8_148)]))]⟩) ?_ ?_
                          · refine OpsOk.cons rfl (.v (VOk.mv (d := (.v (.int .i64 x16_99))) rfl rfl) rfl) ?_
                            refine OpsOk.cons rfl (.v (VOk.arith (op := .add) (k := .i64) (a := x16_99) (b := 1) rfl rfl rfl rfl) rfl) ?_
                            refine OpsOk.cons rfl (.v (VOk.asg (d := (.v (.int .i64 (IntKind.i64.wrap (x16_99 + 1))))) rfl rfl) rfl) ?_
                            exact .done (.mk ⟨.same _, .same _, .same _, .same _, .same _, .same _, .same _, .same _, trivial⟩ ⟨.same _, .same _, trivial⟩)
                          exact ⟨m131, Nat.lt_succ_self m131, y4_0_134, y4_1_135, y4_2_136, y4_3_137, y4_4_138, y4_5_139, y7_0_140, y7_1_141, y7_2_142, y7_3_143, y7_4_144, y7_5_145, y7_6_146, y7_7_147, y7_8_148, (IntKind.i64.wrap (x16_99 + 1)), rfl, H⟩
                  · replace H := ifF H hb175
                    refine Ok.le (σ' := ⟨[(1, (L 9 e_api_Step a1)), (2, (.v (.int .i64 a2))), (4, (.bref 4 0)), (7, (.bref 7 0)), (9, (L 1 (eL 1 (eI .i64)) t18)), (13, (.v (.int .i64 x13_62)))], [(4, (.box true [(.v (.int .i64 y4_0_100)), (S y4_1_101), (S y4_2_102), (L 3 e_api_Attr y4_3_103), (L 6 e_api_Node y4_4_104), (S y4_5_105)])), (7, (.box true [(.v (.int .i64 y7_0_106)), (.v (.bool y7_1_107)), (S y7_2_108), (S y7_3_109), (.v (.int .i64 y7_4_110)), (.v (.bool y7_5_111)), (S y7_6_112), (S y7_7_113), (S y7_8_114)]))]⟩) (.mk ⟨.same _, .same _, .same _, .same _, .same _, .same _, trivial⟩ ⟨.same _, .same _, trivial⟩) ?_
                    refine Ok.exit ?_
                    refine Ok.region (σ' := ⟨[(1, (L 9 e_api_Step a1)), (2, (.v (.int .i64 a2))), (4, (.bref 4 0)), (7, (.bref 7 0)), (9, (L 1 (eL 1 (eI .i64)) t18)), (13, (.v (.int .i64 (IntKind.i64.wrap (x13_62 + 1)))))], [(4, (.box true [(.v (.int .i64 y4_0_100)), (S y4_1_101), (S y4_2_102), (L 3 e_api_Attr y4_3_103), (L 6 e_api_Node y4_4_104), (S y4_5_105)])), (7, (.box true [(.v (.int .i64 y7_0_106)), (.v (.bool y7_1_107)), (S y7_2_108), (S y7_3_109), (.v (.int .i64 y7_4_110)), (.v (.bool y7_5_111)), (S y7_6_112), (S y7_7_113), (S y7_8_114)]))]⟩) ?_ ?_
                    · refine OpsOk.cons rfl (.v (VOk.mv (d := (.v (.int .i64 x13_62))) rfl rfl) rfl) ?_
                      refine OpsOk.cons rfl (.v (VOk.arith (op := .add) (k := .i64) (a := x13_62) (b := 1) rfl rfl rfl rfl) rfl) ?_
                      refine OpsOk.cons rfl (.v (VOk.asg (d := (.v (.int .i64 (IntKind.i64.wrap (x13_62 + 1))))) rfl rfl) rfl) ?_
                      exact .done (.mk ⟨.same _, .same _, .same _, .same _, .same _, .same _, trivial⟩ ⟨.same _, .same _, trivial⟩)
                    exact ⟨m94, Nat.lt_succ_self m94, y4_0_100, y4_1_101, y4_2_102, y4_3_103, y4_4_104, y4_5_105, y7_0_106, y7_1_107, y7_2_108, y7_3_109, y7_4_110, y7_5_111, y7_6_112, y7_7_113, y7_8_114, (IntKind.i64.wrap (x13_62 + 1)), rfl, H⟩
            · replace H := ifF H hb209
              refine Ok.le (σ' := ⟨[], []⟩) (.mk trivial trivial) ?_
              refine Ok.exit ?_
              refine Ok.seq ?_
              refine Ok.region (σ' := ⟨[(8, (.v (.bool true)))], []⟩) ?_ ?_
              · refine OpsOk.cons rfl (.v (VOk.asg (d := (.v (.bool true))) rfl rfl) rfl) ?_
                exact .done (.mk ⟨.same _, trivial⟩ trivial)
              refine Ok.le (σ' := ⟨[(8, (.v (.bool true)))], []⟩) (.mk ⟨.same _, trivial⟩ trivial) ?_
              refine Ok.ret ?_
              obtain rfl := Option.some.inj H
              exact ⟨.inl rfl, ⟨_, (.cons (.tmp rfl) .nil), rfl⟩, trivial⟩

end Go.Proofs.Ytldkgladombmcaa.Sh
