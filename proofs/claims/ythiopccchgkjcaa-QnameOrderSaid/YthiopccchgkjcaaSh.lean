import Derived.Test.YthiopccchgkjcaaProg
import Derived.Test.YthiopccchgkjcaaShb
namespace Go.Proofs.Ythiopccchgkjcaa.Sh
open Go Go.RowKit Go.Proofs.Vx
set_option linter.unusedVariables false

set_option maxRecDepth 100000
set_option maxHeartbeats 1000000
/-! watchbill/watchbilllaw02.QnameDeclares: function 8 -/
def watchbilllaw02_QnameDeclares (k : Nat) (a0 : List T_api_Bind) (a1 : List T_api_Raw) : Option Bool := ((watchbilllaw02_awake k).bind fun (t1 : Bool) => (if (!t1) = true then some false else ((watchbilllaw02_Few k a0).bind fun (t3 : Bool) => (((if ((!t3) == false) = true then watchbilllaw02_FewRaw k a1 else some default)).bind fun (t6 : Bool) => (if ((!t3) || (!t6)) = true then some true else (if (([] : List T_api_Raw).length + a1.length) * 32 ≤ 140737488355328 then ((qname_Declare k a0 (([] : List T_api_Raw) ++ a1)).bind fun (t10 : (List T_api_Bind) × (List T_api_Raw) × Int) => ((watchbillref02_Declare k a0 a1).bind fun (t12 : (List T_api_Bind) × (List T_api_Raw) × Int) => ((qname_Attrs k a0 (([] : List T_api_Raw) ++ a1)).bind fun (t14 : (List T_api_Attr) × Int) => ((watchbillref02_Attrs k a0 a1).bind fun (t16 : (List T_api_Attr) × Int) => ((watchbillref02_Binds k t10.1 t12.1).bind fun (t18 : Bool) => (((if (t18 == true) = true then watchbillref02_Raws k t10.2.1 t12.2.1 else some default)).bind fun (t21 : Bool) => (((if (((t18 && t21) && (t10.2.2 == t12.2.2)) == true) = true then watchbillref02_Same k t14.1 t16.1 else some default)).bind fun (t27 : Bool) => (((if (((((t18 && t21) && (t10.2.2 == t12.2.2)) && t27) && (t14.2 == t16.2)) == true) = true then watchbillref02_Raws k (([] : List T_api_Raw) ++ a1) a1 else some default)).bind fun (t33 : Bool) => some (((((t18 && t21) && (t10.2.2 == t12.2.2)) && t27) && (t14.2 == t16.2)) && t33))))))))) else none))))))
theorem watchbilllaw02_QnameDeclares.ok {k : Nat} {a0 : List T_api_Bind} {a1 : List T_api_Raw} {r : Bool} (H : watchbilllaw02_QnameDeclares k a0 a1 = some r) : Vx.Fn Try.prog 8 [(L 2 e_api_Bind a0), (L 2 e_api_Raw a1)] [] (.v (.bool r)) [] := by
  unfold watchbilllaw02_QnameDeclares at H
  refine Vx.Fn.of_okR Try.func8 rfl (Nat.le_of_ble_eq_true rfl) ?_
  refine Ok.seq ?_
  refine Ok.region (σ' := ⟨[(0, (L 2 e_api_Bind a0)), (1, (L 2 e_api_Raw a1))], []⟩) ?_ ?_
  · refine OpsOk.cons rfl (.v (VOk.asg (d := (.v (.bool false))) rfl rfl) rfl) ?_
    exact .done (.mk ⟨.same _, .same _, trivial⟩ trivial)
  refine Ok.seq ?_
  refine Ok.seq ?_
  obtain ⟨t1, h2, H⟩ := bindE H
  refine Ok.region (σ' := ⟨[(0, (L 2 e_api_Bind a0)), (1, (L 2 e_api_Raw a1)), (17, (.v (.bool (!t1))))], []⟩) ?_ ?_
  · refine OpsOk.cons rfl (.g (GOk.call rfl rfl cl9 rfl (watchbilllaw02_awake.ok h2) rfl) rfl) ?_
    refine OpsOk.cons rfl (.v (VOk.not (b := t1) rfl rfl) rfl) ?_
    exact .done (.mk ⟨.same _, .same _, .same _, trivial⟩ trivial)
  refine Ok.test (b := (!t1)) rfl (fun hb37 => ?_) (fun hb37 => ?_)
  · replace H := ifT H hb37
    refine Ok.seq ?_
    refine Ok.region (σ' := ⟨[(4, (.v (.bool false)))], []⟩) ?_ ?_
    · refine OpsOk.cons rfl (.v (VOk.asg (d := (.v (.bool false))) rfl rfl) rfl) ?_
      exact .done (.mk ⟨.same _, trivial⟩ trivial)
    refine Ok.le (σ' := ⟨[(4, (.v (.bool false)))], []⟩) (.mk ⟨.same _, trivial⟩ trivial) ?_
    refine Ok.ret ?_
    obtain rfl := Option.some.inj H
    exact ⟨.inl rfl, ⟨_, (.cons (.tmp rfl) .nil), rfl⟩, trivial⟩
  · replace H := ifF H hb37
    refine Ok.le (σ' := ⟨[(0, (L 2 e_api_Bind a0)), (1, (L 2 e_api_Raw a1))], []⟩) (.mk ⟨.same _, .same _, trivial⟩ trivial) ?_
    refine Ok.skip ?_
    refine Ok.seq ?_
    refine Ok.seq ?_
    obtain ⟨t3, h4, H⟩ := bindE H
    obtain ⟨t6, h7, H⟩ := bindE H
    refine Ok.region (σ' := ⟨[(0, (L 2 e_api_Bind a0)), (1, (L 2 e_api_Raw a1)), (25, (.v (.bool ((!t3) || (!t6)))))], []⟩) ?_ ?_
    · refine OpsOk.cons rfl (.v (VOk.mv (d := (L 2 e_api_Bind a0)) rfl rfl) rfl) ?_
      refine OpsOk.cons rfl (.g (GOk.call rfl rfl cl12 rfl (watchbilllaw02_Few.ok h4) rfl) rfl) ?_
      refine OpsOk.cons rfl (.v (VOk.not (b := t3) rfl rfl) rfl) ?_
      refine OpsOk.cons rfl (.v (VOk.mv (d := (.v (.bool (!t3)))) rfl rfl) rfl) ?_
      refine OpsOk.consI rfl rfl rfl (.one rfl) rfl (fun hw5 => (VOk.g (VOk.mv (d := (L 2 e_api_Raw a1)) rfl rfl))) ?_
      refine OpsOk.consI rfl rfl rfl (.one rfl) rfl (fun hw5 => (GOk.fr (fr' := [(22, (L 2 e_api_Raw a1))]) ⟨DLe.of_eq (cT hw5).symm, trivial⟩ (GOk.call rfl rfl cl20 rfl (watchbilllaw02_FewRaw.ok (ifT h7 hw5)) rfl))) ?_
      refine OpsOk.consI rfl rfl rfl (.one rfl) rfl (fun hw5 => (GOk.fr (fr' := [(23, (.v (.bool t6)))]) ⟨DLe.of_eq (cT hw5).symm, trivial⟩ (VOk.g (VOk.not (b := t6) rfl rfl)))) ?_
      refine OpsOk.cons rfl (.v (VOk.to (VOk.pickI (b := (!t3)) (p := true) (q := (!t6)) rfl rfl (fun hp8 => rfl) (fun hp8 => (cT (f_beq hp8)))) (pickOr (!t3) (!t6))) rfl) ?_
      exact .done (.mk ⟨.same _, .same _, .same _, trivial⟩ trivial)
    refine Ok.test (b := ((!t3) || (!t6))) rfl (fun hb36 => ?_) (fun hb36 => ?_)
    · replace H := ifT H hb36
      refine Ok.seq ?_
      refine Ok.region (σ' := ⟨[(4, (.v (.bool true)))], []⟩) ?_ ?_
      · refine OpsOk.cons rfl (.v (VOk.asg (d := (.v (.bool true))) rfl rfl) rfl) ?_
        exact .done (.mk ⟨.same _, trivial⟩ trivial)
      refine Ok.le (σ' := ⟨[(4, (.v (.bool true)))], []⟩) (.mk ⟨.same _, trivial⟩ trivial) ?_
      refine Ok.ret ?_
      obtain rfl := Option.some.inj H
      exact ⟨.inl rfl, ⟨_, (.cons (.tmp rfl) .nil), rfl⟩, trivial⟩
    · replace H := ifF H hb36
      refine Ok.le (σ' := ⟨[(0, (L 2 e_api_Bind a0)), (1, (L 2 e_api_Raw a1))], []⟩) (.mk ⟨.same _, .same _, trivial⟩ trivial) ?_
      refine Ok.skip ?_
      refine Ok.seq ?_
      obtain ⟨c9, H⟩ := assertE H
      refine Ok.region (σ' := ⟨[(0, (L 2 e_api_Bind a0)), (1, (L 2 e_api_Raw a1)), (5, (L 2 e_api_Raw (([] : List T_api_Raw) ++ a1)))], []⟩) ?_ ?_
      · refine OpsOk.cons rfl (.g (GOk.to (d' := (.clist 2 (List.map e_api_Raw ([] : List T_api_Raw)))) (GOk.litC rfl Try.underlying46 sz49 zs49 rfl rfl rfl rfl) rfl) rfl) ?_
        refine OpsOk.cons rfl (.v (VOk.mv (d := (L 2 e_api_Raw a1)) rfl rfl) rfl) ?_
        refine OpsOk.cons rfl (.g (GOk.appendC (e := e_api_Raw) (xs := ([] : List T_api_Raw)) (ys := a1) rfl Try.underlying46 elt49 (.same _) rfl c9) rfl) ?_
        refine OpsOk.cons rfl (.v (VOk.asg (d := (L 2 e_api_Raw (([] : List T_api_Raw) ++ a1))) rfl rfl) rfl) ?_
        exact .done (.mk ⟨.same _, .same _, .same _, trivial⟩ trivial)
      refine Ok.seq ?_
      obtain ⟨t10, h11, H⟩ := bindE H
      refine Ok.region (σ' := ⟨[(0, (L 2 e_api_Bind a0)), (1, (L 2 e_api_Raw a1)), (5, (L 2 e_api_Raw (([] : List T_api_Raw) ++ a1))), (6, (L 2 e_api_Bind t10.1)), (7, (L 2 e_api_Raw t10.2.1)), (8, (.v (.int .i64 t10.2.2)))], []⟩) ?_ ?_
      · refine OpsOk.cons rfl (.v (VOk.mv (d := (L 2 e_api_Bind a0)) rfl rfl) rfl) ?_
        refine OpsOk.cons rfl (.v (VOk.mv (d := (L 2 e_api_Raw (([] : List T_api_Raw) ++ a1))) rfl rfl) rfl) ?_
        refine OpsOk.cons rfl (.g (GOk.call rfl rfl cl22 rfl (qname_Declare.ok h11) rfl) rfl) ?_
        refine OpsOk.cons rfl (.v (VOk.mv (d := (.tup [(L 2 e_api_Bind t10.1), (L 2 e_api_Raw t10.2.1), (.v (.int .i64 t10.2.2))])) rfl rfl) rfl) ?_
        refine OpsOk.cons rfl (.v (VOk.extract (d := (L 2 e_api_Bind t10.1)) rfl rfl rfl) rfl) ?_
        refine OpsOk.cons rfl (.v (VOk.extract (d := (L 2 e_api_Raw t10.2.1)) rfl rfl rfl) rfl) ?_
        refine OpsOk.cons rfl (.v (VOk.extract (d := (.v (.int .i64 t10.2.2))) rfl rfl rfl) rfl) ?_
        refine OpsOk.cons rfl (.v (VOk.asg (d := (L 2 e_api_Bind t10.1)) rfl rfl) rfl) ?_
        refine OpsOk.cons rfl (.v (VOk.asg (d := (L 2 e_api_Raw t10.2.1)) rfl rfl) rfl) ?_
        refine OpsOk.cons rfl (.v (VOk.asg (d := (.v (.int .i64 t10.2.2))) rfl rfl) rfl) ?_
        exact .done (.mk ⟨.same _, .same _, .same _, .same _, .same _, .same _, trivial⟩ trivial)
      refine Ok.seq ?_
      obtain ⟨t12, h13, H⟩ := bindE H
      refine Ok.region (σ' := ⟨[(0, (L 2 e_api_Bind a0)), (1, (L 2 e_api_Raw a1)), (5, (L 2 e_api_Raw (([] : List T_api_Raw) ++ a1))), (6, (L 2 e_api_Bind t10.1)), (7, (L 2 e_api_Raw t10.2.1)), (8, (.v (.int .i64 t10.2.2))), (9, (L 2 e_api_Bind t12.1)), (10, (L 2 e_api_Raw t12.2.1)), (11, (.v (.int .i64 t12.2.2)))], []⟩) ?_ ?_
      · refine OpsOk.cons rfl (.v (VOk.mv (d := (L 2 e_api_Bind a0)) rfl rfl) rfl) ?_
        refine OpsOk.cons rfl (.v (VOk.mv (d := (L 2 e_api_Raw a1)) rfl rfl) rfl) ?_
        refine OpsOk.cons rfl (.g (GOk.call rfl rfl cl23 rfl (watchbillref02_Declare.ok h13) rfl) rfl) ?_
        refine OpsOk.cons rfl (.v (VOk.mv (d := (.tup [(L 2 e_api_Bind t12.1), (L 2 e_api_Raw t12.2.1), (.v (.int .i64 t12.2.2))])) rfl rfl) rfl) ?_
        refine OpsOk.cons rfl (.v (VOk.extract (d := (L 2 e_api_Bind t12.1)) rfl rfl rfl) rfl) ?_
        refine OpsOk.cons rfl (.v (VOk.extract (d := (L 2 e_api_Raw t12.2.1)) rfl rfl rfl) rfl) ?_
        refine OpsOk.cons rfl (.v (VOk.extract (d := (.v (.int .i64 t12.2.2))) rfl rfl rfl) rfl) ?_
        refine OpsOk.cons rfl (.v (VOk.asg (d := (L 2 e_api_Bind t12.1)) rfl rfl) rfl) ?_
        refine OpsOk.cons rfl (.v (VOk.asg (d := (L 2 e_api_Raw t12.2.1)) rfl rfl) rfl) ?_
        refine OpsOk.cons rfl (.v (VOk.asg (d := (.v (.int .i64 t12.2.2))) rfl rfl) rfl) ?_
        exact .done (.mk ⟨.same _, .same _, .same _, .same _, .same _, .same _, .same _, .same _, .same _, trivial⟩ trivial)
      refine Ok.seq ?_
      obtain ⟨t14, h15, H⟩ := bindE H
      refine Ok.region (σ' := ⟨[(0, (L 2 e_api_Bind a0)), (1, (L 2 e_api_Raw a1)), (5, (L 2 e_api_Raw (([] : List T_api_Raw) ++ a1))), (6, (L 2 e_api_Bind t10.1)), (7, (L 2 e_api_Raw t10.2.1)), (8, (.v (.int .i64 t10.2.2))), (9, (L 2 e_api_Bind t12.1)), (10, (L 2 e_api_Raw t12.2.1)), (11, (.v (.int .i64 t12.2.2))), (12, (L 3 e_api_Attr t14.1)), (13, (.v (.int .i64 t14.2)))], []⟩) ?_ ?_
      · refine OpsOk.cons rfl (.v (VOk.mv (d := (L 2 e_api_Bind a0)) rfl rfl) rfl) ?_
        refine OpsOk.cons rfl (.v (VOk.mv (d := (L 2 e_api_Raw (([] : List T_api_Raw) ++ a1))) rfl rfl) rfl) ?_
        refine OpsOk.cons rfl (.g (GOk.call rfl rfl cl21 rfl (qname_Attrs.ok h15) rfl) rfl) ?_
        refine OpsOk.cons rfl (.v (VOk.mv (d := (.tup [(L 3 e_api_Attr t14.1), (.v (.int .i64 t14.2))])) rfl rfl) rfl) ?_
        refine OpsOk.cons rfl (.v (VOk.extract (d := (L 3 e_api_Attr t14.1)) rfl rfl rfl) rfl) ?_
        refine OpsOk.cons rfl (.v (VOk.extract (d := (.v (.int .i64 t14.2))) rfl rfl rfl) rfl) ?_
        refine OpsOk.cons rfl (.v (VOk.asg (d := (L 3 e_api_Attr t14.1)) rfl rfl) rfl) ?_
        refine OpsOk.cons rfl (.v (VOk.asg (d := (.v (.int .i64 t14.2))) rfl rfl) rfl) ?_
        exact .done (.mk ⟨.same _, .same _, .same _, .same _, .same _, .same _, .same _, .same _, .same _, .same _, .same _, trivial⟩ trivial)
      refine Ok.seq ?_
      obtain ⟨t16, h17, H⟩ := bindE H
      refine Ok.region (σ' := ⟨[(1, (L 2 e_api_Raw a1)), (5, (L 2 e_api_Raw (([] : List T_api_Raw) ++ a1))), (6, (L 2 e_api_Bind t10.1)), (7, (L 2 e_api_Raw t10.2.1)), (8, (.v (.int .i64 t10.2.2))), (9, (L 2 e_api_Bind t12.1)), (10, (L 2 e_api_Raw t12.2.1)), (11, (.v (.int .i64 t12.2.2))), (12, (L 3 e_api_Attr t14.1)), (13, (.v (.int .i64 t14.2))), (14, (L 3 e_api_Attr t16.1)), (15, (.v (.int .i64 t16.2)))], []⟩) ?_ ?_
      · refine OpsOk.cons rfl (.v (VOk.mv (d := (L 2 e_api_Bind a0)) rfl rfl) rfl) ?_
        refine OpsOk.cons rfl (.v (VOk.mv (d := (L 2 e_api_Raw a1)) rfl rfl) rfl) ?_
        refine OpsOk.cons rfl (.g (GOk.call rfl rfl cl24 rfl (watchbillref02_Attrs.ok h17) rfl) rfl) ?_
        refine OpsOk.cons rfl (.v (VOk.mv (d := (.tup [(L 3 e_api_Attr t16.1), (.v (.int .i64 t16.2))])) rfl rfl) rfl) ?_
        refine OpsOk.cons rfl (.v (VOk.extract (d := (L 3 e_api_Attr t16.1)) rfl rfl rfl) rfl) ?_
        refine OpsOk.cons rfl (.v (VOk.extract (d := (.v (.int .i64 t16.2))) rfl rfl rfl) rfl) ?_
        refine OpsOk.cons rfl (.v (VOk.asg (d := (L 3 e_api_Attr t16.1)) rfl rfl) rfl) ?_
        refine OpsOk.cons rfl (.v (VOk.asg (d := (.v (.int .i64 t16.2))) rfl rfl) rfl) ?_
        exact .done (.mk ⟨.same _, .same _, .same _, .same _, .same _, .same _, .same _, .same _, .same _, .same _, .same _, .same _, trivial⟩ trivial)
      refine Ok.seq ?_
      obtain ⟨t18, h19, H⟩ := bindE H
      obtain ⟨t21, h22, H⟩ := bindE H
      obtain ⟨t27, h28, H⟩ := bindE H
      obtain ⟨t33, h34, H⟩ := bindE H
      refine Ok.region (σ' := ⟨[(4, (.v (.bool (((((t18 && t21) && (t10.2.2 == t12.2.2)) && t27) && (t14.2 == t16.2)) && t33))))], []⟩) ?_ ?_
      · refine OpsOk.cons rfl (.v (VOk.mv (d := (L 2 e_api_Bind t10.1)) rfl rfl) rfl) ?_
        refine OpsOk.cons rfl (.v (VOk.mv (d := (L 2 e_api_Bind t12.1)) rfl rfl) rfl) ?_
        refine OpsOk.cons rfl (.g (GOk.call rfl rfl cl15 rfl (watchbillref02_Binds.ok h19) rfl) rfl) ?_
        refine OpsOk.cons rfl (.v (VOk.mv (d := (.v (.bool t18))) rfl rfl) rfl) ?_
        refine OpsOk.consI rfl rfl rfl (.one rfl) rfl (fun hw20 => (VOk.g (VOk.mv (d := (L 2 e_api_Raw t10.2.1)) rfl rfl))) ?_
        refine OpsOk.consI rfl rfl rfl (.one rfl) rfl (fun hw20 => (VOk.g (VOk.mv (d := (L 2 e_api_Raw t12.2.1)) rfl rfl))) ?_
        refine OpsOk.consI rfl rfl rfl (.one rfl) rfl (fun hw20 => (GOk.fr (fr' := [(59, (L 2 e_api_Raw t10.2.1)), (60, (L 2 e_api_Raw t12.2.1))]) ⟨DLe.of_eq (cT hw20).symm, DLe.of_eq (cT hw20).symm, trivial⟩ (GOk.call rfl rfl cl25 rfl (watchbillref02_Raws.ok (ifT h22 hw20)) rfl))) ?_
        refine OpsOk.cons rfl (.v (VOk.to (VOk.pickI (b := t18) (p := t21) (q := false) rfl rfl (fun hp23 => (cT (t_beq hp23))) (fun hp23 => rfl)) (pickAnd t18 t21)) rfl) ?_
        refine OpsOk.cons rfl (.v (VOk.mv (d := (.v (.bool (t18 && t21)))) rfl rfl) rfl) ?_
        refine OpsOk.consI rfl rfl rfl (.one rfl) rfl (fun hw24 => (VOk.g (VOk.mv (d := (.v (.int .i64 t10.2.2))) rfl rfl))) ?_
        refine OpsOk.consI rfl rfl rfl (.one rfl) rfl (fun hw24 => (VOk.g (VOk.mv (d := (.v (.int .i64 t12.2.2))) rfl rfl))) ?_
        refine OpsOk.consI rfl rfl rfl (.one rfl) rfl (fun hw24 => (GOk.fr (fr' := [(64, (.v (.int .i64 t10.2.2))), (65, (.v (.int .i64 t12.2.2)))]) ⟨DLe.of_eq (cT hw24).symm, DLe.of_eq (cT hw24).symm, trivial⟩ (VOk.g (VOk.arith (op := .eql) (k := .i64) (a := t10.2.2) (b := t12.2.2) rfl rfl rfl rfl)))) ?_
        refine OpsOk.cons rfl (.v (VOk.to (VOk.pickI (b := (t18 && t21)) (p := (t10.2.2 == t12.2.2)) (q := false) rfl rfl (fun hp25 => (cT (t_beq hp25))) (fun hp25 => rfl)) (pickAnd (t18 && t21) (t10.2.2 == t12.2.2))) rfl) ?_
        refine OpsOk.cons rfl (.v (VOk.mv (d := (.v (.bool ((t18 && t21) && (t10.2.2 == t12.2.2))))) rfl rfl) rfl) ?_
        refine OpsOk.consI rfl rfl rfl (.one rfl) rfl (fun hw26 => (VOk.g (VOk.mv (d := (L 3 e_api_Attr t14.1)) rfl rfl))) ?_
        refine OpsOk.consI rfl rfl rfl (.one rfl) rfl (fun hw26 => (VOk.g (VOk.mv (d := (L 3 e_api_Attr t16.1)) rfl rfl))) ?_
        refine OpsOk.consI rfl rfl rfl (.one rfl) rfl (fun hw26 => (GOk.fr (fr' := [(69, (L 3 e_api_Attr t14.1)), (70, (L 3 e_api_Attr t16.1))]) ⟨DLe.of_eq (cT hw26).symm, DLe.of_eq (cT hw26).symm, trivial⟩ (GOk.call rfl rfl cl26 rfl (watchbillref02_Same.ok (ifT h28 hw26)) rfl))) ?_
        refine OpsOk.cons rfl (.v (VOk.to (VOk.pickI (b := ((t18 && t21) && (t10.2.2 == t12.2.2))) (p := t27) (q := false) rfl rfl (fun hp29 => (cT (t_beq hp29))) (fun hp29 => rfl)) (pickAnd ((t18 && t21) && (t10.2.2 == t12.2.2)) t27)) rfl) ?_
        refine OpsOk.cons rfl (.v (VOk.mv (d := (.v (.bool (((t18 && t21) && (t10.2.2 == t12.2.2)) && t27)))) rfl rfl) rfl) ?_
        refine OpsOk.consI rfl rfl rfl (.one rfl) rfl (fun hw30 => (VOk.g (VOk.mv (d := (.v (.int .i64 t14.2))) rfl rfl))) ?_
        refine OpsOk.consI rfl rfl rfl (.one rfl) rfl (fun hw30 => (VOk.g (VOk.mv (d := (.v (.int .i64 t16.2))) rfl rfl))) ?_
        refine OpsOk.consI rfl rfl rfl (.one rfl) rfl (fun hw30 => (GOk.fr (fr' := [(74, (.v (.int .i64 t14.2))), (75, (.v (.int .i64 t16.2)))]) ⟨DLe.of_eq (cT hw30).symm, DLe.of_eq (cT hw30).symm, trivial⟩ (VOk.g (VOk.arith (op := .eql) (k := .i64) (a := t14.2) (b := t16.2) rfl rfl rfl rfl)))) ?_
        refine OpsOk.cons rfl (.v (VOk.to (VOk.pickI (b := (((t18 && t21) && (t10.2.2 == t12.2.2)) && t27)) (p := (t14.2 == t16.2)) (q := false) rfl rfl (fun hp31 => (cT (t_beq hp31))) (fun hp31 => rfl)) (pickAnd (((t18 && t21) && (t10.2.2 == t12.2.2)) && t27) (t14.2 == t16.2))) rfl) ?_
        refine OpsOk.cons rfl (.v (VOk.mv (d := (.v (.bool ((((t18 && t21) && (t10.2.2 == t12.2.2)) && t27) && (t14.2 == t16.2))))) rfl rfl) rfl) ?_
        refine OpsOk.consI rfl rfl rfl (.one rfl) rfl (fun hw32 => (VOk.g (VOk.mv (d := (L 2 e_api_Raw (([] : List T_api_Raw) ++ a1))) rfl rfl))) ?_
        refine OpsOk.consI rfl rfl rfl (.one rfl) rfl (fun hw32 => (VOk.g (VOk.mv (d := (L 2 e_api_Raw a1)) rfl rfl))) ?_
        refine OpsOk.consI rfl rfl rfl (.one rfl) rfl (fun hw32 => (GOk.fr (fr' := [(79, (L 2 e_api_Raw (([] : List T_api_Raw) ++ a1))), (80, (L 2 e_api_Raw a1))]) ⟨DLe.of_eq (cT hw32).symm, DLe.of_eq (cT hw32).symm, trivial⟩ (GOk.call rfl rfl cl25 rfl (watchbillref02_Raws.ok (ifT h34 hw32)) rfl))) ?_
        refine OpsOk.cons rfl (.v (VOk.to (VOk.pickI (b := ((((t18 && t21) && (t10.2.2 == t12.2.2)) && t27) && (t14.2 == t16.2))) (p := t33) (q := false) rfl rfl (fun hp35 => (cT (t_beq hp35))) (fun hp35 => rfl)) (pickAnd ((((t18 && t21) && (t10.2.2 == t12.2.2)) && t27) && (t14.2 == t16.2)) t33)) rfl) ?_
        refine OpsOk.cons rfl (.v (VOk.asg (d := (.v (.bool (((((t18 && t21) && (t10.2.2 == t12.2.2)) && t27) && (t14.2 == t16.2)) && t33)))) rfl rfl) rfl) ?_
        exact .done (.mk ⟨.same _, trivial⟩ trivial)
      refine Ok.le (σ' := ⟨[(4, (.v (.bool (((((t18 && t21) && (t10.2.2 == t12.2.2)) && t27) && (t14.2 == t16.2)) && t33))))], []⟩) (.mk ⟨.same _, trivial⟩ trivial) ?_
      refine Ok.ret ?_
      obtain rfl := Option.some.inj H
      exact ⟨.inl rfl, ⟨_, (.cons (.tmp rfl) .nil), rfl⟩, trivial⟩

/-! watchbill/watchbilllaw02.QnameOrder: function 7 -/
def watchbilllaw02_QnameOrder.l1 (k : Nat) (a1 : List T_api_Raw) (t16 : (List T_api_Attr) × Int) (t18 : (List T_api_Attr) × Int) : Nat → Int → Option Bool
  | 0, _ => none
  | m26 + 1, x11_24 => (if (decide (x11_24 < (t16.1.length : Int))) = true then (if (0 : Int) ≤ x11_24 ∧ x11_24 < (t16.1.length : Int) then (if (0 : Int) ≤ (IntKind.i64.wrap ((IntKind.i64.wrap ((t18.1.length : Int) - 1)) - x11_24)) ∧ (IntKind.i64.wrap ((IntKind.i64.wrap ((t18.1.length : Int) - 1)) - x11_24)) < (t18.1.length : Int) then (if (!((rd t16.1 x11_24).Name.Space == (rd t18.1 (IntKind.i64.wrap ((IntKind.i64.wrap ((t18.1.length : Int) - 1)) - x11_24))).Name.Space && ((rd t16.1 x11_24).Name.Local == (rd t18.1 (IntKind.i64.wrap ((IntKind.i64.wrap ((t18.1.length : Int) - 1)) - x11_24))).Name.Local && ((rd t16.1 x11_24).Value == (rd t18.1 (IntKind.i64.wrap ((IntKind.i64.wrap ((t18.1.length : Int) - 1)) - x11_24))).Value && true)))) = true then some false else watchbilllaw02_QnameOrder.l1 k a1 t16 t18 m26 (IntKind.i64.wrap (x11_24 + 1))) else none) else none) else some (((t16.1.length : Int) == (a1.length : Int)) && ((t18.1.length : Int) == (a1.length : Int))))
def watchbilllaw02_QnameOrder.l0 (k : Nat) (a0 : List T_api_Bind) (a1 : List T_api_Raw) : Nat → List T_api_Raw → Int → Option Bool
  | 0, _, _ => none
  | m13 + 1, y5_10, x6_9 => (if (decide (x6_9 ≥ 0)) = true then (if (0 : Int) ≤ x6_9 ∧ x6_9 < (a1.length : Int) then (if (y5_10.length + ([(rd a1 x6_9)] : List T_api_Raw).length) * 32 ≤ 140737488355328 then watchbilllaw02_QnameOrder.l0 k a0 a1 m13 (y5_10 ++ ([(rd a1 x6_9)] : List T_api_Raw)) (IntKind.i64.wrap (x6_9 - 1)) else none) else none) else ((qname_Attrs k a0 a1).bind fun (t16 : (List T_api_Attr) × Int) => ((qname_Attrs k a0 y5_10).bind fun (t18 : (List T_api_Attr) × Int) => (if ((!((t16.2 == 0) == (t18.2 == 0))) || (t16.2 != 0)) = true then some (((t16.2 == 0) == (t18.2 == 0)) && ((t16.1.length : Int) == 0)) else watchbilllaw02_QnameOrder.l1 k a1 t16 t18 k 0))))
def watchbilllaw02_QnameOrder (k : Nat) (a0 : List T_api_Bind) (a1 : List T_api_Raw) : Option Bool := ((watchbilllaw02_awake k).bind fun (t1 : Bool) => (if (!t1) = true then some false else ((watchbilllaw02_Few k a0).bind fun (t3 : Bool) => (((if ((!t3) == false) = true then watchbilllaw02_FewRaw k a1 else some default)).bind fun (t6 : Bool) => (if ((!t3) || (!t6)) = true then some true else watchbilllaw02_QnameOrder.l0 k a0 a1 k ([] : List T_api_Raw) (IntKind.i64.wrap ((a1.length : Int) - 1)))))))
theorem watchbilllaw02_QnameOrder.ok {k : Nat} {a0 : List T_api_Bind} {a1 : List T_api_Raw} {r : Bool} (H : watchbilllaw02_QnameOrder k a0 a1 = some r) : Vx.Fn Try.prog 7 [(L 2 e_api_Bind a0), (L 2 e_api_Raw a1)] [] (.v (.bool r)) [] := by
  unfold watchbilllaw02_QnameOrder at H
  refine Vx.Fn.of_okR Try.func7 rfl (Nat.le_of_ble_eq_true rfl) ?_
  refine Ok.seq ?_
  refine Ok.region (σ' := ⟨[(0, (L 2 e_api_Bind a0)), (1, (L 2 e_api_Raw a1))], []⟩) ?_ ?_
  · refine OpsOk.cons rfl (.v (VOk.asg (d := (.v (.bool false))) rfl rfl) rfl) ?_
    exact .done (.mk ⟨.same _, .same _, trivial⟩ trivial)
  refine Ok.seq ?_
  refine Ok.seq ?_
  obtain ⟨t1, h2, H⟩ := bindE H
  refine Ok.region (σ' := ⟨[(0, (L 2 e_api_Bind a0)), (1, (L 2 e_api_Raw a1)), (13, (.v (.bool (!t1))))], []⟩) ?_ ?_
  · refine OpsOk.cons rfl (.g (GOk.call rfl rfl cl9 rfl (watchbilllaw02_awake.ok h2) rfl) rfl) ?_
    refine OpsOk.cons rfl (.v (VOk.not (b := t1) rfl rfl) rfl) ?_
    exact .done (.mk ⟨.same _, .same _, .same _, trivial⟩ trivial)
  refine Ok.test (b := (!t1)) rfl (fun hb36 => ?_) (fun hb36 => ?_)
  · replace H := ifT H hb36
    refine Ok.seq ?_
    refine Ok.region (σ' := ⟨[(4, (.v (.bool false)))], []⟩) ?_ ?_
    · refine OpsOk.cons rfl (.v (VOk.asg (d := (.v (.bool false))) rfl rfl) rfl) ?_
      exact .done (.mk ⟨.same _, trivial⟩ trivial)
    refine Ok.le (σ' := ⟨[(4, (.v (.bool false)))], []⟩) (.mk ⟨.same _, trivial⟩ trivial) ?_
    refine Ok.ret ?_
    obtain rfl := Option.some.inj H
    exact ⟨.inl rfl, ⟨_, (.cons (.tmp rfl) .nil), rfl⟩, trivial⟩
  · replace H := ifF H hb36
    refine Ok.le (σ' := ⟨[(0, (L 2 e_api_Bind a0)), (1, (L 2 e_api_Raw a1))], []⟩) (.mk ⟨.same _, .same _, trivial⟩ trivial) ?_
    refine Ok.skip ?_
    refine Ok.seq ?_
    refine Ok.seq ?_
    obtain ⟨t3, h4, H⟩ := bindE H
    obtain ⟨t6, h7, H⟩ := bindE H
    refine Ok.region (σ' := ⟨[(0, (L 2 e_api_Bind a0)), (1, (L 2 e_api_Raw a1)), (21, (.v (.bool ((!t3) || (!t6)))))], []⟩) ?_ ?_
    · refine OpsOk.cons rfl (.v (VOk.mv (d := (L 2 e_api_Bind a0)) rfl rfl) rfl) ?_
      refine OpsOk.cons rfl (.g (GOk.call rfl rfl cl12 rfl (watchbilllaw02_Few.ok h4) rfl) rfl) ?_
      refine OpsOk.cons rfl (.v (VOk.not (b := t3) rfl rfl) rfl) ?_
      refine OpsOk.cons rfl (.v (VOk.mv (d := (.v (.bool (!t3)))) rfl rfl) rfl) ?_
      refine OpsOk.consI rfl rfl rfl (.one rfl) rfl (fun hw5 => (VOk.g (VOk.mv (d := (L 2 e_api_Raw a1)) rfl rfl))) ?_
      refine OpsOk.consI rfl rfl rfl (.one rfl) rfl (fun hw5 => (GOk.fr (fr' := [(18, (L 2 e_api_Raw a1))]) ⟨DLe.of_eq (cT hw5).symm, trivial⟩ (GOk.call rfl rfl cl20 rfl (watchbilllaw02_FewRaw.ok (ifT h7 hw5)) rfl))) ?_
      refine OpsOk.consI rfl rfl rfl (.one rfl) rfl (fun hw5 => (GOk.fr (fr' := [(19, (.v (.bool t6)))]) ⟨DLe.of_eq (cT hw5).symm, trivial⟩ (VOk.g (VOk.not (b := t6) rfl rfl)))) ?_
      refine OpsOk.cons rfl (.v (VOk.to (VOk.pickI (b := (!t3)) (p := true) (q := (!t6)) rfl rfl (fun hp8 => rfl) (fun hp8 => (cT (f_beq hp8)))) (pickOr (!t3) (!t6))) rfl) ?_
      exact .done (.mk ⟨.same _, .same _, .same _, trivial⟩ trivial)
    refine Ok.test (b := ((!t3) || (!t6))) rfl (fun hb35 => ?_) (fun hb35 => ?_)
    · replace H := ifT H hb35
      refine Ok.seq ?_
      refine Ok.region (σ' := ⟨[(4, (.v (.bool true)))], []⟩) ?_ ?_
      · refine OpsOk.cons rfl (.v (VOk.asg (d := (.v (.bool true))) rfl rfl) rfl) ?_
        exact .done (.mk ⟨.same _, trivial⟩ trivial)
      refine Ok.le (σ' := ⟨[(4, (.v (.bool true)))], []⟩) (.mk ⟨.same _, trivial⟩ trivial) ?_
      refine Ok.ret ?_
      obtain rfl := Option.some.inj H
      exact ⟨.inl rfl, ⟨_, (.cons (.tmp rfl) .nil), rfl⟩, trivial⟩
    · replace H := ifF H hb35
      refine Ok.le (σ' := ⟨[(0, (L 2 e_api_Bind a0)), (1, (L 2 e_api_Raw a1))], []⟩) (.mk ⟨.same _, .same _, trivial⟩ trivial) ?_
      refine Ok.skip ?_
      refine Ok.seq ?_
      refine Ok.region (σ' := ⟨[(0, (L 2 e_api_Bind a0)), (1, (L 2 e_api_Raw a1)), (5, (.sref 5))], [(5, (.rows true 49 2 (([] : List T_api_Raw).map e_api_Raw)))]⟩) ?_ ?_
      · refine OpsOk.cons rfl (.nilT 5 49 2 (.inl rfl) rfl rfl) ?_
        exact .done (.mk ⟨.same _, .same _, .same _, trivial⟩ ⟨.same _, trivial⟩)
      refine Ok.seq ?_
      refine Ok.seq ?_
      refine Ok.region (σ' := ⟨[(0, (L 2 e_api_Bind a0)), (1, (L 2 e_api_Raw a1)), (5, (.sref 5)), (6, (.v (.int .i64 (IntKind.i64.wrap ((a1.length : Int) - 1)))))], [(5, (.rows true 49 2 (([] : List T_api_Raw).map e_api_Raw)))]⟩) ?_ ?_
      · refine OpsOk.cons rfl (.v (VOk.mv (d := (L 2 e_api_Raw a1)) rfl rfl) rfl) ?_
        refine OpsOk.cons rfl (.v (VOk.lenL (e := e_api_Raw) (xs := a1) rfl Try.underlying46 rfl) rfl) ?_
        refine OpsOk.cons rfl (.v (VOk.arith (op := .sub) (k := .i64) (a := (a1.length : Int)) (b := 1) rfl rfl rfl rfl) rfl) ?_
        refine OpsOk.cons rfl (.v (VOk.asg (d := (.v (.int .i64 (IntKind.i64.wrap ((a1.length : Int) - 1))))) rfl rfl) rfl) ?_
        exact .done (.mk ⟨.same _, .same _, .same _, .same _, trivial⟩ ⟨.same _, trivial⟩)
      refine Ok.block ?_
      refine Ok.le (σ' := ⟨[(0, (L 2 e_api_Bind a0)), (1, (L 2 e_api_Raw a1)), (5, (.sref 5)), (6, (.v (.int .i64 (IntKind.i64.wrap ((a1.length : Int) - 1)))))], [(5, (.rows true 49 2 (([] : List T_api_Raw).map e_api_Raw)))]⟩) (.mk ⟨.same _, .same _, .same _, .same _, trivial⟩ ⟨.same _, trivial⟩) ?_
      refine Ok.loop (fun m13 σ => ∃ (y5_10 : List T_api_Raw) (x6_9 : Int), σ = ⟨[(0, (L 2 e_api_Bind a0)), (1, (L 2 e_api_Raw a1)), (5, (.sref 5)), (6, (.v (.int .i64 x6_9)))], [(5, (.rows true 49 2 (y5_10.map e_api_Raw)))]⟩ ∧ watchbilllaw02_QnameOrder.l0 k a0 a1 m13 y5_10 x6_9 = some r) k ⟨([] : List T_api_Raw), (IntKind.i64.wrap ((a1.length : Int) - 1)), rfl, H⟩ ?_
      rintro m13 σ ⟨y5_10, x6_9, rfl, H⟩
      cases m13 with
      | zero => exact absurd H (by simp [watchbilllaw02_QnameOrder.l0])
      | succ m13 =>
        unfold watchbilllaw02_QnameOrder.l0 at H
        refine Ok.seq ?_
        refine Ok.seq ?_
        refine Ok.region (σ' := ⟨[(0, (L 2 e_api_Bind a0)), (1, (L 2 e_api_Raw a1)), (5, (.sref 5)), (6, (.v (.int .i64 x6_9))), (26, (.v (.bool (decide (x6_9 ≥ 0)))))], [(5, (.rows true 49 2 (y5_10.map e_api_Raw)))]⟩) ?_ ?_
        · refine OpsOk.cons rfl (.v (VOk.mv (d := (.v (.int .i64 x6_9))) rfl rfl) rfl) ?_
          refine OpsOk.cons rfl (.v (VOk.arith (op := .geq) (k := .i64) (a := x6_9) (b := 0) rfl rfl rfl rfl) rfl) ?_
          exact .done (.mk ⟨.same _, .same _, .same _, .same _, .same _, trivial⟩ ⟨.same _, trivial⟩)
        refine Ok.test (b := (decide (x6_9 ≥ 0))) rfl (fun hb34 => ?_) (fun hb34 => ?_)
        · replace H := ifT H hb34
          refine Ok.le (σ' := ⟨[(0, (L 2 e_api_Bind a0)), (1, (L 2 e_api_Raw a1)), (5, (.sref 5)), (6, (.v (.int .i64 x6_9)))], [(5, (.rows true 49 2 (y5_10.map e_api_Raw)))]⟩) (.mk ⟨.same _, .same _, .same _, .same _, trivial⟩ ⟨.same _, trivial⟩) ?_
          refine Ok.skip ?_
          refine Ok.seq ?_
          refine Ok.block ?_
          obtain ⟨c14, H⟩ := assertE H
          obtain ⟨c15, H⟩ := assertE H
          refine Ok.region (σ' := ⟨[(0, (L 2 e_api_Bind a0)), (1, (L 2 e_api_Raw a1)), (5, (.sref 5)), (6, (.v (.int .i64 x6_9)))], [(5, (.rows true 49 2 ((y5_10 ++ ([(rd a1 x6_9)] : List T_api_Raw)).map e_api_Raw)))]⟩) ?_ ?_
          · refine OpsOk.cons rfl (.v (VOk.mv (d := (.sref 5)) rfl rfl) rfl) ?_
            refine OpsOk.cons rfl (.v (VOk.mv (d := (L 2 e_api_Raw a1)) rfl rfl) rfl) ?_
            refine OpsOk.cons rfl (.v (VOk.mv (d := (.v (.int .i64 x6_9))) rfl rfl) rfl) ?_
            refine OpsOk.cons rfl (.v (VOk.indexL (sz := 2) (e := e_api_Raw) (xs := a1) (i := x6_9) rfl Try.underlying46 sz49 rfl rfl c14) rfl) ?_
            refine OpsOk.cons rfl (.v (VOk.to (d' := (.agg (e_api_Raw (rd a1 x6_9)))) (.loadFpAgg rfl Try.underlying49 rfl sz49 rfl rfl) rfl) rfl) ?_
            refine OpsOk.cons rfl (.g (GOk.to (d' := (L 2 e_api_Raw ([(rd a1 x6_9)] : List T_api_Raw))) (GOk.lit rfl Try.underlying46 sz49 zs49 rfl rfl rfl rfl) rfl) rfl) ?_
            refine OpsOk.cons rfl (OpOk.appendL (e := e_api_Raw) (xs := y5_10) (ys := ([(rd a1 x6_9)] : List T_api_Raw)) rfl Try.underlying46 elt49 rfl rfl rfl c15 rfl) ?_
            refine OpsOk.cons rfl (.v (VOk.asg (d := (.sref 5)) rfl rfl) rfl) ?_
            exact .done (.mk ⟨.same _, .same _, .same _, .same _, trivial⟩ ⟨.same _, trivial⟩)
          refine Ok.region (σ' := ⟨[(0, (L 2 e_api_Bind a0)), (1, (L 2 e_api_Raw a1)), (5, (.sref 5)), (6, (.v (.int .i64 (IntKind.i64.wrap (x6_9 - 1)))))], [(5, (.rows true 49 2 ((y5_10 ++ ([(rd a1 x6_9)] : List T_api_Raw)).map e_api_Raw)))]⟩) ?_ ?_
          · refine OpsOk.cons rfl (.v (VOk.mv (d := (.v (.int .i64 x6_9))) rfl rfl) rfl) ?_
            refine OpsOk.cons rfl (.v (VOk.arith (op := .sub) (k := .i64) (a := x6_9) (b := 1) rfl rfl rfl rfl) rfl) ?_
            refine OpsOk.cons rfl (.v (VOk.asg (d := (.v (.int .i64 (IntKind.i64.wrap (x6_9 - 1))))) rfl rfl) rfl) ?_
            exact .done (.mk ⟨.same _, .same _, .same _, .same _, trivial⟩ ⟨.same _, trivial⟩)
          exact ⟨m13, Nat.lt_succ_self m13, (y5_10 ++ ([(rd a1 x6_9)] : List T_api_Raw)), (IntKind.i64.wrap (x6_9 - 1)), rfl, H⟩
        · replace H := ifF H hb34
          refine Ok.le (σ' := ⟨[(0, (L 2 e_api_Bind a0)), (1, (L 2 e_api_Raw a1)), (5, (.sref 5))], [(5, (.rows true 49 2 (y5_10.map e_api_Raw)))]⟩) (.mk ⟨.same _, .same _, .same _, trivial⟩ ⟨.same _, trivial⟩) ?_
          refine Ok.exit ?_
          refine Ok.seq ?_
          obtain ⟨t16, h17, H⟩ := bindE H
          refine Ok.region (σ' := ⟨[(0, (L 2 e_api_Bind a0)), (1, (L 2 e_api_Raw a1)), (5, (.sref 5)), (7, (L 3 e_api_Attr t16.1)), (8, (.v (.int .i64 t16.2)))], [(5, (.rows true 49 2 (y5_10.map e_api_Raw)))]⟩) ?_ ?_
          · refine OpsOk.cons rfl (.v (VOk.mv (d := (L 2 e_api_Bind a0)) rfl rfl) rfl) ?_
            refine OpsOk.cons rfl (.v (VOk.mv (d := (L 2 e_api_Raw a1)) rfl rfl) rfl) ?_
            refine OpsOk.cons rfl (.g (GOk.call rfl rfl cl21 rfl (qname_Attrs.ok h17) rfl) rfl) ?_
            refine OpsOk.cons rfl (.v (VOk.mv (d := (.tup [(L 3 e_api_Attr t16.1), (.v (.int .i64 t16.2))])) rfl rfl) rfl) ?_
            refine OpsOk.cons rfl (.v (VOk.extract (d := (L 3 e_api_Attr t16.1)) rfl rfl rfl) rfl) ?_
            refine OpsOk.cons rfl (.v (VOk.extract (d := (.v (.int .i64 t16.2))) rfl rfl rfl) rfl) ?_
            refine OpsOk.cons rfl (.v (VOk.asg (d := (L 3 e_api_Attr t16.1)) rfl rfl) rfl) ?_
            refine OpsOk.cons rfl (.v (VOk.asg (d := (.v (.int .i64 t16.2))) rfl rfl) rfl) ?_
            exact .done (.mk ⟨.same _, .same _, .same _, .same _, .same _, trivial⟩ ⟨.same _, trivial⟩)
          refine Ok.seq ?_
          obtain ⟨t18, h19, H⟩ := bindE H
          refine Ok.frzL 5 (e := e_api_Raw) (xs := y5_10) rfl ?_
          refine Ok.region (σ' := ⟨[(1, (L 2 e_api_Raw a1)), (7, (L 3 e_api_Attr t16.1)), (8, (.v (.int .i64 t16.2))), (9, (L 3 e_api_Attr t18.1)), (10, (.v (.int .i64 t18.2)))], []⟩) ?_ ?_
          · refine OpsOk.cons rfl (.v (VOk.mv (d := (L 2 e_api_Bind a0)) rfl rfl) rfl) ?_
            refine OpsOk.cons rfl (.v (VOk.mv (d := (L 2 e_api_Raw y5_10)) rfl rfl) rfl) ?_
            refine OpsOk.cons rfl (.g (GOk.call rfl rfl cl21 rfl (qname_Attrs.ok h19) rfl) rfl) ?_
            refine OpsOk.cons rfl (.v (VOk.mv (d := (.tup [(L 3 e_api_Attr t18.1), (.v (.int .i64 t18.2))])) rfl rfl) rfl) ?_
            refine OpsOk.cons rfl (.v (VOk.extract (d := (L 3 e_api_Attr t18.1)) rfl rfl rfl) rfl) ?_
            refine OpsOk.cons rfl (.v (VOk.extract (d := (.v (.int .i64 t18.2))) rfl rfl rfl) rfl) ?_
            refine OpsOk.cons rfl (.v (VOk.asg (d := (L 3 e_api_Attr t18.1)) rfl rfl) rfl) ?_
            refine OpsOk.cons rfl (.v (VOk.asg (d := (.v (.int .i64 t18.2))) rfl rfl) rfl) ?_
            exact .done (.mk ⟨.same _, .same _, .same _, .same _, .same _, trivial⟩ trivial)
          refine Ok.seq ?_
          refine Ok.seq ?_
          refine Ok.region (σ' := ⟨[(1, (L 2 e_api_Raw a1)), (7, (L 3 e_api_Attr t16.1)), (8, (.v (.int .i64 t16.2))), (9, (L 3 e_api_Attr t18.1)), (10, (.v (.int .i64 t18.2))), (56, (.v (.bool ((!((t16.2 == 0) == (t18.2 == 0))) || (t16.2 != 0)))))], []⟩) ?_ ?_
          · refine OpsOk.cons rfl (.v (VOk.mv (d := (.v (.int .i64 t16.2))) rfl rfl) rfl) ?_
            refine OpsOk.cons rfl (.v (VOk.arith (op := .eql) (k := .i64) (a := t16.2) (b := 0) rfl rfl rfl rfl) rfl) ?_
            refine OpsOk.cons rfl (.v (VOk.mv (d := (.v (.int .i64 t18.2))) rfl rfl) rfl) ?_
            refine OpsOk.cons rfl (.v (VOk.arith (op := .eql) (k := .i64) (a := t18.2) (b := 0) rfl rfl rfl rfl) rfl) ?_
            refine OpsOk.cons rfl (.v (VOk.eqB (op := .neq) (p := (t16.2 == 0)) (q := (t18.2 == 0)) rfl (.inr rfl) Try.underlying4 rfl rfl) rfl) ?_
            refine OpsOk.cons rfl (.v (VOk.mv (d := (.v (.bool (!((t16.2 == 0) == (t18.2 == 0)))))) rfl rfl) rfl) ?_
            refine OpsOk.consI rfl rfl rfl (.one rfl) rfl (fun hw20 => (VOk.g (VOk.mv (d := (.v (.int .i64 t16.2))) rfl rfl))) ?_
            refine OpsOk.consI rfl rfl rfl (.one rfl) rfl (fun hw20 => (GOk.fr (fr' := [(54, (.v (.int .i64 t16.2)))]) ⟨DLe.of_eq (cT hw20).symm, trivial⟩ (VOk.g (VOk.arith (op := .neq) (k := .i64) (a := t16.2) (b := 0) rfl rfl rfl rfl)))) ?_
            refine OpsOk.cons rfl (.v (VOk.to (VOk.pickI (b := (!((t16.2 == 0) == (t18.2 == 0)))) (p := true) (q := (t16.2 != 0)) rfl rfl (fun hp21 => rfl) (fun hp21 => (cT (f_beq hp21)))) (pickOr (!((t16.2 == 0) == (t18.2 == 0))) (t16.2 != 0))) rfl) ?_
            exact .done (.mk ⟨.same _, .same _, .same _, .same _, .same _, .same _, trivial⟩ trivial)
          refine Ok.test (b := ((!((t16.2 == 0) == (t18.2 == 0))) || (t16.2 != 0))) rfl (fun hb33 => ?_) (fun hb33 => ?_)
          · replace H := ifT H hb33
            refine Ok.seq ?_
            refine Ok.region (σ' := ⟨[(4, (.v (.bool (((t16.2 == 0) == (t18.2 == 0)) && ((t16.1.length : Int) == 0)))))], []⟩) ?_ ?_
            · refine OpsOk.cons rfl (.v (VOk.mv (d := (.v (.int .i64 t16.2))) rfl rfl) rfl) ?_
              refine OpsOk.cons rfl (.v (VOk.arith (op := .eql) (k := .i64) (a := t16.2) (b := 0) rfl rfl rfl rfl) rfl) ?_
              refine OpsOk.cons rfl (.v (VOk.mv (d := (.v (.int .i64 t18.2))) rfl rfl) rfl) ?_
              refine OpsOk.cons rfl (.v (VOk.arith (op := .eql) (k := .i64) (a := t18.2) (b := 0) rfl rfl rfl rfl) rfl) ?_
              refine OpsOk.cons rfl (.v (VOk.eqB (op := .eql) (p := (t16.2 == 0)) (q := (t18.2 == 0)) rfl (.inl rfl) Try.underlying4 rfl rfl) rfl) ?_
              refine OpsOk.cons rfl (.v (VOk.mv (d := (.v (.bool ((t16.2 == 0) == (t18.2 == 0))))) rfl rfl) rfl) ?_
              refine OpsOk.consI rfl rfl rfl (.one rfl) rfl (fun hw22 => (VOk.g (VOk.mv (d := (L 3 e_api_Attr t16.1)) rfl rfl))) ?_
              refine OpsOk.consI rfl rfl rfl (.one rfl) rfl (fun hw22 => (GOk.fr (fr' := [(63, (L 3 e_api_Attr t16.1))]) ⟨DLe.of_eq (cT hw22).symm, trivial⟩ (VOk.g (VOk.lenL (e := e_api_Attr) (xs := t16.1) rfl Try.underlying50 rfl)))) ?_
              refine OpsOk.consI rfl rfl rfl (.one rfl) rfl (fun hw22 => (GOk.fr (fr' := [(64, (.v (.int .i64 (t16.1.length : Int))))]) ⟨DLe.of_eq (cT hw22).symm, trivial⟩ (VOk.g (VOk.arith (op := .eql) (k := .i64) (a := (t16.1.length : Int)) (b := 0) rfl rfl rfl rfl)))) ?_
              refine OpsOk.cons rfl (.v (VOk.to (VOk.pickI (b := ((t16.2 == 0) == (t18.2 == 0))) (p := ((t16.1.length : Int) == 0)) (q := false) rfl rfl (fun hp23 => (cT (t_beq hp23))) (fun hp23 => rfl)) (pickAnd ((t16.2 == 0) == (t18.2 == 0)) ((t16.1.length : Int) == 0))) rfl) ?_
              refine OpsOk.cons rfl (.v (VOk.asg (d := (.v (.bool (((t16.2 == 0) == (t18.2 == 0)) && ((t16.1.length : Int) == 0))))) rfl rfl) rfl) ?_
              exact .done (.mk ⟨.same _, trivial⟩ trivial)
            refine Ok.le (σ' := ⟨[(4, (.v (.bool (((t16.2 == 0) == (t18.2 == 0)) && ((t16.1.length : Int) == 0)))))], []⟩) (.mk ⟨.same _, trivial⟩ trivial) ?_
            refine Ok.ret ?_
            obtain rfl := Option.some.inj H
            exact ⟨.inl rfl, ⟨_, (.cons (.tmp rfl) .nil), rfl⟩, trivial⟩
          · replace H := ifF H hb33
            refine Ok.le (σ' := ⟨[(1, (L 2 e_api_Raw a1)), (7, (L 3 e_api_Attr t16.1)), (9, (L 3 e_api_Attr t18.1))], []⟩) (.mk ⟨.same _, .same _, .same _, trivial⟩ trivial) ?_
            refine Ok.skip ?_
            refine Ok.seq ?_
            refine Ok.seq ?_
            refine Ok.region (σ' := ⟨[(1, (L 2 e_api_Raw a1)), (7, (L 3 e_api_Attr t16.1)), (9, (L 3 e_api_Attr t18.1)), (11, (.v (.int .i64 0)))], []⟩) ?_ ?_
            · refine OpsOk.cons rfl (.v (VOk.asg (d := (.v (.int .i64 0))) rfl rfl) rfl) ?_
              exact .done (.mk ⟨.same _, .same _, .same _, .same _, trivial⟩ trivial)
            refine Ok.block ?_
            refine Ok.le (σ' := ⟨[(1, (L 2 e_api_Raw a1)), (7, (L 3 e_api_Attr t16.1)), (9, (L 3 e_api_Attr t18.1)), (11, (.v (.int .i64 0)))], []⟩) (.mk ⟨.same _, .same _, .same _, .same _, trivial⟩ trivial) ?_
            refine Ok.loop (fun m26 σ => ∃ (x11_24 : Int), σ = ⟨[(1, (L 2 e_api_Raw a1)), (7, (L 3 e_api_Attr t16.1)), (9, (L 3 e_api_Attr t18.1)), (11, (.v (.int .i64 x11_24)))], []⟩ ∧ watchbilllaw02_QnameOrder.l1 k a1 t16 t18 m26 x11_24 = some r) k ⟨0, rfl, H⟩ ?_
            rintro m26 σ ⟨x11_24, rfl, H⟩
            cases m26 with
            | zero => exact absurd H (by simp [watchbilllaw02_QnameOrder.l1])
            | succ m26 =>
              unfold watchbilllaw02_QnameOrder.l1 at H
              refine Ok.seq ?_
              refine Ok.seq ?_
              refine Ok.region (σ' := ⟨[(1, (L 2 e_api_Raw a1)), (7, (L 3 e_api_Attr t16.1)), (9, (L 3 e_api_Attr t18.1)), (11, (.v (.int .i64 x11_24))), (70, (.v (.bool (decide (x11_24 < (t16.1.length : Int))))))], []⟩) ?_ ?_
              · refine OpsOk.cons rfl (.v (VOk.mv (d := (.v (.int .i64 x11_24))) rfl rfl) rfl) ?_
                refine OpsOk.cons rfl (.v (VOk.mv (d := (L 3 e_api_Attr t16.1)) rfl rfl) rfl) ?_
                refine OpsOk.cons rfl (.v (VOk.lenL (e := e_api_Attr) (xs := t16.1) rfl Try.underlying50 rfl) rfl) ?_
                refine OpsOk.cons rfl (.v (VOk.arith (op := .lss) (k := .i64) (a := x11_24) (b := (t16.1.length : Int)) rfl rfl rfl rfl) rfl) ?_
                exact .done (.mk ⟨.same _, .same _, .same _, .same _, .same _, trivial⟩ trivial)
              refine Ok.test (b := (decide (x11_24 < (t16.1.length : Int)))) rfl (fun hb32 => ?_) (fun hb32 => ?_)
              · replace H := ifT H hb32
                refine Ok.le (σ' := ⟨[(1, (L 2 e_api_Raw a1)), (7, (L 3 e_api_Attr t16.1)), (9, (L 3 e_api_Attr t18.1)), (11, (.v (.int .i64 x11_24)))], []⟩) (.mk ⟨.same _, .same _, .same _, .same _, trivial⟩ trivial) ?_
                refine Ok.skip ?_
                refine Ok.seq ?_
                refine Ok.block ?_
                refine Ok.seq ?_
                obtain ⟨c27, H⟩ := assertE H
                obtain ⟨c28, H⟩ := assertE H
                refine Ok.drawE (σ' := ⟨[(1, (L 2 e_api_Raw a1)), (7, (L 3 e_api_Attr t16.1)), (9, (L 3 e_api_Attr t18.1)), (11, (.v (.int .i64 x11_24))), (85, (.v (.bool (!((rd t16.1 x11_24).Name.Space == (rd t18.1 (IntKind.i64.wrap ((IntKind.i64.wrap ((t18.1.length : Int) - 1)) - x11_24))).Name.Space && ((rd t16.1 x11_24).Name.Local == (rd t18.1 (IntKind.i64.wrap ((IntKind.i64.wrap ((t18.1.length : Int) - 1)) - x11_24))).Name.Local && ((rd t16.1 x11_24).Value == (rd t18.1 (IntKind.i64.wrap ((IntKind.i64.wrap ((t18.1.length : Int) - 1)) - x11_24))).Value && true)))))))], []⟩) [⟨true, [(7, (L 3 e_api_Attr t16.1))], (L 3 e_api_Attr t16.1)⟩, ⟨true, [(11, (.v (.int .i64 x11_24)))], (.v (.int .i64 x11_24))⟩, ⟨true, [(73, (L 3 e_api_Attr t16.1)), (74, (.v (.int .i64 x11_24)))], (.fp (e_api_Attr (rd t16.1 x11_24)) 0)⟩, ⟨true, [(75, (.fp (e_api_Attr (rd t16.1 x11_24)) 0))], (.agg (e_api_Attr (rd t16.1 x11_24)))⟩, ⟨true, [(9, (L 3 e_api_Attr t18.1))], (L 3 e_api_Attr t18.1)⟩, ⟨true, [(9, (L 3 e_api_Attr t18.1))], (L 3 e_api_Attr t18.1)⟩, ⟨true, [(78, (L 3 e_api_Attr t18.1))], (.v (.int .i64 (t18.1.length : Int)))⟩, ⟨true, [(79, (.v (.int .i64 (t18.1.length : Int))))], (.v (.int .i64 (IntKind.i64.wrap ((t18.1.length : Int) - 1))))⟩, ⟨true, [(11, (.v (.int .i64 x11_24)))], (.v (.int .i64 x11_24))⟩, ⟨true, [(80, (.v (.int .i64 (IntKind.i64.wrap ((t18.1.length : Int) - 1))))), (81, (.v (.int .i64 x11_24)))], (.v (.int .i64 (IntKind.i64.wrap ((IntKind.i64.wrap ((t18.1.length : Int) - 1)) - x11_24))))⟩, ⟨true, [(77, (L 3 e_api_Attr t18.1)), (82, (.v (.int .i64 (IntKind.i64.wrap ((IntKind.i64.wrap ((t18.1.length : Int) - 1)) - x11_24)))))], (.fp (e_api_Attr (rd t18.1 (IntKind.i64.wrap ((IntKind.i64.wrap ((t18.1.length : Int) - 1)) - x11_24)))) 0)⟩, ⟨true, [(83, (.fp (e_api_Attr (rd t18.1 (IntKind.i64.wrap ((IntKind.i64.wrap ((t18.1.length : Int) - 1)) - x11_24)))) 0))], (.agg (e_api_Attr (rd t18.1 (IntKind.i64.wrap ((IntKind.i64.wrap ((t18.1.length : Int) - 1)) - x11_24)))))⟩, ⟨true, [(76, (.agg (e_api_Attr (rd t16.1 x11_24)))), (84, (.agg (e_api_Attr (rd t18.1 (IntKind.i64.wrap ((IntKind.i64.wrap ((t18.1.length : Int) - 1)) - x11_24))))))], (.v (.bool (!((rd t16.1 x11_24).Name.Space == (rd t18.1 (IntKind.i64.wrap ((IntKind.i64.wrap ((t18.1.length : Int) - 1)) - x11_24))).Name.Space && ((rd t16.1 x11_24).Name.Local == (rd t18.1 (IntKind.i64.wrap ((IntKind.i64.wrap ((t18.1.length : Int) - 1)) - x11_24))).Name.Local && ((rd t16.1 x11_24).Value == (rd t18.1 (IntKind.i64.wrap ((IntKind.i64.wrap ((t18.1.length : Int) - 1)) - x11_24))).Value && true))))))⟩] [[], [], [0, 1], [2], [], [], [5], [6], [], [7, 8], [4, 9], [10], [3, 11]] mixed (by kernel_rfl) ?_ ?_
                · refine TxtE.cons rfl ⟨.same _, trivial⟩ rfl (VOk.g (VOk.mv (d := (L 3 e_api_Attr t16.1)) rfl rfl)) ?_
                  refine TxtE.cons rfl ⟨.same _, trivial⟩ rfl (VOk.g (VOk.mv (d := (.v (.int .i64 x11_24))) rfl rfl)) ?_
                  refine TxtE.cons rfl ⟨.same _, .same _, trivial⟩ rfl (VOk.g (VOk.indexL (sz := 3) (e := e_api_Attr) (xs := t16.1) (i := x11_24) rfl Try.underlying50 sz54 rfl rfl c27)) ?_
                  refine TxtE.cons rfl ⟨.same _, trivial⟩ rfl (VOk.g (VOk.to (d' := (.agg (e_api_Attr (rd t16.1 x11_24)))) (.loadFpAgg rfl Try.underlying54 rfl sz54 rfl rfl) rfl)) ?_
                  refine TxtE.cons rfl ⟨.same _, trivial⟩ rfl (VOk.g (VOk.mv (d := (L 3 e_api_Attr t18.1)) rfl rfl)) ?_
                  refine TxtE.cons rfl ⟨.same _, trivial⟩ rfl (VOk.g (VOk.mv (d := (L 3 e_api_Attr t18.1)) rfl rfl)) ?_
                  refine TxtE.cons rfl ⟨.same _, trivial⟩ rfl (VOk.g (VOk.lenL (e := e_api_Attr) (xs := t18.1) rfl Try.underlying50 rfl)) ?_
                  refine TxtE.cons rfl ⟨.same _, trivial⟩ rfl (VOk.g (VOk.arith (op := .sub) (k := .i64) (a := (t18.1.length : Int)) (b := 1) rfl rfl rfl rfl)) ?_
                  refine TxtE.cons rfl ⟨.same _, trivial⟩ rfl (VOk.g (VOk.mv (d := (.v (.int .i64 x11_24))) rfl rfl)) ?_
                  refine TxtE.cons rfl ⟨.same _, .same _, trivial⟩ rfl (VOk.g (VOk.arith (op := .sub) (k := .i64) (a := (IntKind.i64.wrap ((t18.1.length : Int) - 1))) (b := x11_24) rfl rfl rfl rfl)) ?_
                  refine TxtE.cons rfl ⟨.same _, .same _, trivial⟩ rfl (VOk.g (VOk.indexL (sz := 3) (e := e_api_Attr) (xs := t18.1) (i := (IntKind.i64.wrap ((IntKind.i64.wrap ((t18.1.length : Int) - 1)) - x11_24))) rfl Try.underlying50 sz54 rfl rfl c28)) ?_
                  refine TxtE.cons rfl ⟨.same _, trivial⟩ rfl (VOk.g (VOk.to (d' := (.agg (e_api_Attr (rd t18.1 (IntKind.i64.wrap ((IntKind.i64.wrap ((t18.1.length : Int) - 1)) - x11_24)))))) (.loadFpAgg rfl Try.underlying54 rfl sz54 rfl rfl) rfl)) ?_
                  refine TxtE.cons rfl ⟨.same _, .same _, trivial⟩ rfl (VOk.g (VOk.eqS' (op := .neq) (d := (.v (.bool (!((rd t16.1 x11_24).Name.Space == (rd t18.1 (IntKind.i64.wrap ((IntKind.i64.wrap ((t18.1.length : Int) - 1)) - x11_24))).Name.Space && ((rd t16.1 x11_24).Name.Local == (rd t18.1 (IntKind.i64.wrap ((IntKind.i64.wrap ((t18.1.length : Int) - 1)) - x11_24))).Name.Local && ((rd t16.1 x11_24).Value == (rd t18.1 (IntKind.i64.wrap ((IntKind.i64.wrap ((t18.1.length : Int) - 1)) - x11_24))).Value && true))))))) rfl (.inr rfl) (eqt54 9997) ag54 eg54 rfl rfl rfl rfl)) ?_
                  exact .done (.mk ⟨.same _, .same _, .same _, .same _, .same _, trivial⟩ trivial)
                refine Ok.test (b := (!((rd t16.1 x11_24).Name.Space == (rd t18.1 (IntKind.i64.wrap ((IntKind.i64.wrap ((t18.1.length : Int) - 1)) - x11_24))).Name.Space && ((rd t16.1 x11_24).Name.Local == (rd t18.1 (IntKind.i64.wrap ((IntKind.i64.wrap ((t18.1.length : Int) - 1)) - x11_24))).Name.Local && ((rd t16.1 x11_24).Value == (rd t18.1 (IntKind.i64.wrap ((IntKind.i64.wrap ((t18.1.length : Int) - 1)) - x11_24))).Value && true))))) rfl (fun hb29 => ?_) (fun hb29 => ?_)
                · replace H := ifT H hb29
                  refine Ok.seq ?_
                  refine Ok.region (σ' := ⟨[(4, (.v (.bool false)))], []⟩) ?_ ?_
                  · refine OpsOk.cons rfl (.v (VOk.asg (d := (.v (.bool false))) rfl rfl) rfl) ?_
                    exact .done (.mk ⟨.same _, trivial⟩ trivial)
                  refine Ok.le (σ' := ⟨[(4, (.v (.bool false)))], []⟩) (.mk ⟨.same _, trivial⟩ trivial) ?_
                  refine Ok.ret ?_
                  obtain rfl := Option.some.inj H
                  exact ⟨.inl rfl, ⟨_, (.cons (.tmp rfl) .nil), rfl⟩, trivial⟩
                · replace H := ifF H hb29
                  refine Ok.le (σ' := ⟨[(1, (L 2 e_api_Raw a1)), (7, (L 3 e_api_Attr t16.1)), (9, (L 3 e_api_Attr t18.1)), (11, (.v (.int .i64 x11_24)))], []⟩) (.mk ⟨.same _, .same _, .same _, .same _, trivial⟩ trivial) ?_
                  refine Ok.skip ?_
                  refine Ok.region (σ' := ⟨[(1, (L 2 e_api_Raw a1)), (7, (L 3 e_api_Attr t16.1)), (9, (L 3 e_api_Attr t18.1)), (11, (.v (.int .i64 (IntKind.i64.wrap (x11_24 + 1)))))], []⟩) ?_ ?_
                  · refine OpsOk.cons rfl (.v (VOk.mv (d := (.v (.int .i64 x11_24))) rfl rfl) rfl) ?_
                    refine OpsOk.cons rfl (.v (VOk.arith (op := .add) (k := .i64) (a := x11_24) (b := 1) rfl rfl rfl rfl) rfl) ?_
                    refine OpsOk.cons rfl (.v (VOk.asg (d := (.v (.int .i64 (IntKind.i64.wrap (x11_24 + 1))))) rfl rfl) rfl) ?_
                    exact .done (.mk ⟨.same _, .same _, .same _, .same _, trivial⟩ trivial)
                  exact ⟨m26, Nat.lt_succ_self m26, (IntKind.i64.wrap (x11_24 + 1)), rfl, H⟩
              · replace H := ifF H hb32
                refine Ok.le (σ' := ⟨[(1, (L 2 e_api_Raw a1)), (7, (L 3 e_api_Attr t16.1)), (9, (L 3 e_api_Attr t18.1))], []⟩) (.mk ⟨.same _, .same _, .same _, trivial⟩ trivial) ?_
                refine Ok.exit ?_
                refine Ok.seq ?_
                refine Ok.region (σ' := ⟨[(4, (.v (.bool (((t16.1.length : Int) == (a1.length : Int)) && ((t18.1.length : Int) == (a1.length : Int))))))], []⟩) ?_ ?_
                · refine OpsOk.cons rfl (.v (VOk.mv (d := (L 3 e_api_Attr t16.1)) rfl rfl) rfl) ?_
                  refine OpsOk.cons rfl (.v (VOk.lenL (e := e_api_Attr) (xs := t16.1) rfl Try.underlying50 rfl) rfl) ?_
                  refine OpsOk.cons rfl (.v (VOk.mv (d := (L 2 e_api_Raw a1)) rfl rfl) rfl) ?_
                  refine OpsOk.cons rfl (.v (VOk.lenL (e := e_api_Raw) (xs := a1) rfl Try.underlying46 rfl) rfl) ?_
                  refine OpsOk.cons rfl (.v (VOk.arith (op := .eql) (k := .i64) (a := (t16.1.length : Int)) (b := (a1.length : Int)) rfl rfl rfl rfl) rfl) ?_
                  refine OpsOk.cons rfl (.v (VOk.mv (d := (.v (.bool ((t16.1.length : Int) == (a1.length : Int))))) rfl rfl) rfl) ?_
                  refine OpsOk.consI rfl rfl rfl (.one rfl) rfl (fun hw30 => (VOk.g (VOk.mv (d := (L 3 e_api_Attr t18.1)) rfl rfl))) ?_
                  refine OpsOk.consI rfl rfl rfl (.one rfl) rfl (fun hw30 => (GOk.fr (fr' := [(92, (L 3 e_api_Attr t18.1))]) ⟨DLe.of_eq (cT hw30).symm, trivial⟩ (VOk.g (VOk.lenL (e := e_api_Attr) (xs := t18.1) rfl Try.underlying50 rfl)))) ?_
                  refine OpsOk.consI rfl rfl rfl (.one rfl) rfl (fun hw30 => (VOk.g (VOk.mv (d := (L 2 e_api_Raw a1)) rfl rfl))) ?_
                  refine OpsOk.consI rfl rfl rfl (.one rfl) rfl (fun hw30 => (GOk.fr (fr' := [(94, (L 2 e_api_Raw a1))]) ⟨DLe.of_eq (cT hw30).symm, trivial⟩ (VOk.g (VOk.lenL (e := e_api_Raw) (xs := a1) rfl Try.underlying46 rfl)))) ?_
                  refine OpsOk.consI rfl rfl rfl (.one rfl) rfl (fun hw30 => (GOk.fr (fr' := [(93, (.v (.int .i64 (t18.1.length : Int)))), (95, (.v (.int .i64 (a1.length : Int))))]) ⟨DLe.of_eq (cT hw30).symm, DLe.of_eq (cT hw30).symm, trivial⟩ (VOk.g (VOk.arith (op := .eql) (k := .i64) (a := (t18.1.length : Int)) (b := (a1.length : Int)) rfl rfl rfl rfl)))) ?_
                  refine OpsOk.cons rfl (.v (VOk.to (VOk.pickI (b := ((t16.1.length : Int) == (a1.length : Int))) (p := ((t18.1.length : Int) == (a1.length : Int))) (q := false) rfl rfl (fun hp31 => (cT (t_beq hp31))) (fun hp31 => rfl)) (pickAnd ((t16.1.length : Int) == (a1.length : Int)) ((t18.1.length : Int) == (a1.length : Int)))) rfl) ?_
                  refine OpsOk.cons rfl (.v (VOk.asg (d := (.v (.bool (((t16.1.length : Int) == (a1.length : Int)) && ((t18.1.length : Int) == (a1.length : Int)))))) rfl rfl) rfl) ?_
                  exact .done (.mk ⟨.same _, trivial⟩ trivial)
                refine Ok.le (σ' := ⟨[(4, (.v (.bool (((t16.1.length : Int) == (a1.length : Int)) && ((t18.1.length : Int) == (a1.length : Int))))))], []⟩) (.mk ⟨.same _, trivial⟩ trivial) ?_
                refine Ok.ret ?_
                obtain rfl := Option.some.inj H
                exact ⟨.inl rfl, ⟨_, (.cons (.tmp rfl) .nil), rfl⟩, trivial⟩

end Go.Proofs.Ythiopccchgkjcaa.Sh
