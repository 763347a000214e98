import Derived.Test.YtkiikmejjcmafaaProg
import Derived.Test.YtkiikmejjcmafaaSha
namespace Go.Proofs.Ytkiikmejjcmafaa.Sh
open Go Go.RowKit Go.Proofs.Vx
set_option linter.unusedVariables false

set_option maxRecDepth 100000
set_option maxHeartbeats 1000000
/-! watchbill/watchbillref22.Same: function 13 -/
def watchbillref22_Same (k : Nat) (a0 : T_api_Grant) (a1 : T_api_Grant) : Option Bool := (((if (((((a0.Handling == a1.Handling) && (a0.All == a1.All)) && (a0.Notes == a1.Notes)) && (a0.Contact == a1.Contact)) == true) = true then watchbillref09_Same k a0.Class a1.Class else some default)).bind fun (t8 : Bool) => some (((((a0.Handling == a1.Handling) && (a0.All == a1.All)) && (a0.Notes == a1.Notes)) && (a0.Contact == a1.Contact)) && t8))
theorem watchbillref22_Same.ok {k : Nat} {a0 : T_api_Grant} {a1 : T_api_Grant} {r : Bool} (H : watchbillref22_Same k a0 a1 = some r) : Vx.Fn Try.prog 13 [(.agg (e_api_Grant a0)), (.agg (e_api_Grant a1))] [] (.v (.bool r)) [] := by
  unfold watchbillref22_Same at H
  refine Vx.Fn.of_okR Try.func13 rfl (Nat.le_of_ble_eq_true rfl) ?_
  refine Ok.seq ?_
  refine Ok.region (σ' := ⟨[(2, (.bref 2 0)), (3, (.bref 3 0))], [(2, (.box .ex (c_api_Grant a0))), (3, (.box .ex (c_api_Grant a1)))]⟩) ?_ ?_
  · refine OpsOk.cons rfl (OpOk.box 2 (cells := [(.v (.int .i64 a0.Handling)), (.v (.bool a0.All)), (L 1 eS a0.Class), (.v (.bool a0.Notes)), (.v (.bool a0.Contact))]) rfl rfl rfl rfl) ?_
    refine OpsOk.cons rfl (OpOk.box 3 (cells := [(.v (.int .i64 a1.Handling)), (.v (.bool a1.All)), (L 1 eS a1.Class), (.v (.bool a1.Notes)), (.v (.bool a1.Contact))]) rfl rfl rfl rfl) ?_
    refine .cv (VOk.asg (d := (.v (.bool false))) rfl rfl) rfl rfl ?_
    exact .done (.rf rfl rfl)
  refine Ok.seq ?_
  obtain ⟨t8, h9, H⟩ := bindE H
  refine Ok.region (σ' := ⟨[(4, (.v (.bool (((((a0.Handling == a1.Handling) && (a0.All == a1.All)) && (a0.Notes == a1.Notes)) && (a0.Contact == a1.Contact)) && t8))))], []⟩) ?_ ?_
  · refine .cv (VOk.to (VOk.fieldB rfl Try.underlying34 rfl sz3 rfl rfl) rfl) rfl rfl ?_
    refine .cv (VOk.loadB (d := (.v (.int .i64 a0.Handling))) rfl Try.underlying3 rfl rfl rfl rfl) rfl rfl ?_
    refine .cv (VOk.to (VOk.fieldB rfl Try.underlying34 rfl sz3 rfl rfl) rfl) rfl rfl ?_
    refine .cv (VOk.loadB (d := (.v (.int .i64 a1.Handling))) rfl Try.underlying3 rfl rfl rfl rfl) rfl rfl ?_
    refine .cv (VOk.arith (op := .eql) (k := .i64) (a := a0.Handling) (b := a1.Handling) rfl rfl rfl rfl) rfl rfl ?_
    refine .cv (VOk.mv (d := (.v (.bool (a0.Handling == a1.Handling)))) rfl rfl) rfl rfl ?_
    refine OpsOk.consI rfl rfl rfl (.one rfl) rfl (fun hw1 => (VOk.g (VOk.to (VOk.fieldB rfl Try.underlying34 rfl sz4 rfl rfl) rfl))) ?_
    refine OpsOk.consI rfl rfl rfl (.one rfl) rfl (fun hw1 => (GOk.fr (fr' := [(11, (.bref 2 1))]) ⟨DLe.of_eq (cT hw1).symm, trivial⟩ (VOk.g (VOk.loadB (d := (.v (.bool a0.All))) rfl Try.underlying4 rfl rfl rfl rfl)))) ?_
    refine OpsOk.consI rfl rfl rfl (.one rfl) rfl (fun hw1 => (VOk.g (VOk.to (VOk.fieldB rfl Try.underlying34 rfl sz4 rfl rfl) rfl))) ?_
    refine OpsOk.consI rfl rfl rfl (.one rfl) rfl (fun hw1 => (GOk.fr (fr' := [(13, (.bref 3 1))]) ⟨DLe.of_eq (cT hw1).symm, trivial⟩ (VOk.g (VOk.loadB (d := (.v (.bool a1.All))) rfl Try.underlying4 rfl rfl rfl rfl)))) ?_
    refine OpsOk.consI rfl rfl rfl (.one rfl) rfl (fun hw1 => (GOk.fr (fr' := [(12, (.v (.bool a0.All))), (14, (.v (.bool a1.All)))]) ⟨DLe.of_eq (cT hw1).symm, DLe.of_eq (cT hw1).symm, trivial⟩ (VOk.g (VOk.eqB (op := .eql) (p := a0.All) (q := a1.All) rfl (.inl rfl) Try.underlying4 rfl rfl)))) ?_
    refine .cv (VOk.to (VOk.pickI (b := (a0.Handling == a1.Handling)) (p := (a0.All == a1.All)) (q := false) rfl rfl (fun hp2 => (cT (t_beq hp2))) (fun hp2 => rfl)) (pickAnd (a0.Handling == a1.Handling) (a0.All == a1.All))) rfl rfl ?_
    refine .cv (VOk.mv (d := (.v (.bool ((a0.Handling == a1.Handling) && (a0.All == a1.All))))) rfl rfl) rfl rfl ?_
    refine OpsOk.consI rfl rfl rfl (.one rfl) rfl (fun hw3 => (VOk.g (VOk.to (VOk.fieldB rfl Try.underlying34 rfl sz4 rfl rfl) rfl))) ?_
    refine OpsOk.consI rfl rfl rfl (.one rfl) rfl (fun hw3 => (GOk.fr (fr' := [(18, (.bref 2 3))]) ⟨DLe.of_eq (cT hw3).symm, trivial⟩ (VOk.g (VOk.loadB (d := (.v (.bool a0.Notes))) rfl Try.underlying4 rfl rfl rfl rfl)))) ?_
    refine OpsOk.consI rfl rfl rfl (.one rfl) rfl (fun hw3 => (VOk.g (VOk.to (VOk.fieldB rfl Try.underlying34 rfl sz4 rfl rfl) rfl))) ?_
    refine OpsOk.consI rfl rfl rfl (.one rfl) rfl (fun hw3 => (GOk.fr (fr' := [(20, (.bref 3 3))]) ⟨DLe.of_eq (cT hw3).symm, trivial⟩ (VOk.g (VOk.loadB (d := (.v (.bool a1.Notes))) rfl Try.underlying4 rfl rfl rfl rfl)))) ?_
    refine OpsOk.consI rfl rfl rfl (.one rfl) rfl (fun hw3 => (GOk.fr (fr' := [(19, (.v (.bool a0.Notes))), (21, (.v (.bool a1.Notes)))]) ⟨DLe.of_eq (cT hw3).symm, DLe.of_eq (cT hw3).symm, trivial⟩ (VOk.g (VOk.eqB (op := .eql) (p := a0.Notes) (q := a1.Notes) rfl (.inl rfl) Try.underlying4 rfl rfl)))) ?_
    refine .cv (VOk.to (VOk.pickI (b := ((a0.Handling == a1.Handling) && (a0.All == a1.All))) (p := (a0.Notes == a1.Notes)) (q := false) rfl rfl (fun hp4 => (cT (t_beq hp4))) (fun hp4 => rfl)) (pickAnd ((a0.Handling == a1.Handling) && (a0.All == a1.All)) (a0.Notes == a1.Notes))) rfl rfl ?_
    refine .cv (VOk.mv (d := (.v (.bool (((a0.Handling == a1.Handling) && (a0.All == a1.All)) && (a0.Notes == a1.Notes))))) rfl rfl) rfl rfl ?_
    refine OpsOk.consI rfl rfl rfl (.one rfl) rfl (fun hw5 => (VOk.g (VOk.to (VOk.fieldB rfl Try.underlying34 rfl sz4 rfl rfl) rfl))) ?_
    refine OpsOk.consI rfl rfl rfl (.one rfl) rfl (fun hw5 => (GOk.fr (fr' := [(25, (.bref 2 4))]) ⟨DLe.of_eq (cT hw5).symm, trivial⟩ (VOk.g (VOk.loadB (d := (.v (.bool a0.Contact))) rfl Try.underlying4 rfl rfl rfl rfl)))) ?_
    refine OpsOk.consI rfl rfl rfl (.one rfl) rfl (fun hw5 => (VOk.g (VOk.to (VOk.fieldB rfl Try.underlying34 rfl sz4 rfl rfl) rfl))) ?_
    refine OpsOk.consI rfl rfl rfl (.one rfl) rfl (fun hw5 => (GOk.fr (fr' := [(27, (.bref 3 4))]) ⟨DLe.of_eq (cT hw5).symm, trivial⟩ (VOk.g (VOk.loadB (d := (.v (.bool a1.Contact))) rfl Try.underlying4 rfl rfl rfl rfl)))) ?_
    refine OpsOk.consI rfl rfl rfl (.one rfl) rfl (fun hw5 => (GOk.fr (fr' := [(26, (.v (.bool a0.Contact))), (28, (.v (.bool a1.Contact)))]) ⟨DLe.of_eq (cT hw5).symm, DLe.of_eq (cT hw5).symm, trivial⟩ (VOk.g (VOk.eqB (op := .eql) (p := a0.Contact) (q := a1.Contact) rfl (.inl rfl) Try.underlying4 rfl rfl)))) ?_
    refine .cv (VOk.to (VOk.pickI (b := (((a0.Handling == a1.Handling) && (a0.All == a1.All)) && (a0.Notes == a1.Notes))) (p := (a0.Contact == a1.Contact)) (q := false) rfl rfl (fun hp6 => (cT (t_beq hp6))) (fun hp6 => rfl)) (pickAnd (((a0.Handling == a1.Handling) && (a0.All == a1.All)) && (a0.Notes == a1.Notes)) (a0.Contact == a1.Contact))) rfl rfl ?_
    refine .cv (VOk.mv (d := (.v (.bool ((((a0.Handling == a1.Handling) && (a0.All == a1.All)) && (a0.Notes == a1.Notes)) && (a0.Contact == a1.Contact))))) rfl rfl) rfl rfl ?_
    refine OpsOk.consI rfl rfl rfl (.one rfl) rfl (fun hw7 => (VOk.g (VOk.to (VOk.fieldB rfl Try.underlying34 rfl sz27 rfl rfl) rfl))) ?_
    refine OpsOk.consI rfl rfl rfl (.one rfl) rfl (fun hw7 => (GOk.fr (fr' := [(32, (.bref 2 2))]) ⟨DLe.of_eq (cT hw7).symm, trivial⟩ (VOk.g (VOk.loadB (d := (L 1 eS a0.Class)) rfl Try.underlying27 rfl rfl rfl rfl)))) ?_
    refine OpsOk.consI rfl rfl rfl (.one rfl) rfl (fun hw7 => (VOk.g (VOk.to (VOk.fieldB rfl Try.underlying34 rfl sz27 rfl rfl) rfl))) ?_
    refine OpsOk.consI rfl rfl rfl (.one rfl) rfl (fun hw7 => (GOk.fr (fr' := [(34, (.bref 3 2))]) ⟨DLe.of_eq (cT hw7).symm, trivial⟩ (VOk.g (VOk.loadB (d := (L 1 eS a1.Class)) rfl Try.underlying27 rfl rfl rfl rfl)))) ?_
    refine OpsOk.consI rfl rfl rfl (.one rfl) rfl (fun hw7 => (GOk.fr (fr' := [(33, (L 1 eS a0.Class)), (35, (L 1 eS a1.Class))]) ⟨DLe.of_eq (cT hw7).symm, DLe.of_eq (cT hw7).symm, trivial⟩ (GOk.call rfl rfl cl22 rfl (watchbillref09_Same.ok (ifT h9 hw7)) rfl))) ?_
    refine .cv (VOk.to (VOk.pickI (b := ((((a0.Handling == a1.Handling) && (a0.All == a1.All)) && (a0.Notes == a1.Notes)) && (a0.Contact == a1.Contact))) (p := t8) (q := false) rfl rfl (fun hp10 => (cT (t_beq hp10))) (fun hp10 => rfl)) (pickAnd ((((a0.Handling == a1.Handling) && (a0.All == a1.All)) && (a0.Notes == a1.Notes)) && (a0.Contact == a1.Contact)) t8)) rfl rfl ?_
    refine .cv (VOk.asg (d := (.v (.bool (((((a0.Handling == a1.Handling) && (a0.All == a1.All)) && (a0.Notes == a1.Notes)) && (a0.Contact == a1.Contact)) && t8)))) rfl rfl) rfl rfl ?_
    exact .done (.rf rfl rfl)
  refine Ok.ret ?_
  obtain rfl := Option.some.inj H
  exact ⟨.inl rfl, ⟨_, (.cons (.tmp rfl) .nil), rfl⟩, trivial⟩

/-! watchbill/watchbilllaw22.DecideDecides: function 3 -/
def watchbilllaw22_DecideDecides.l0 (k : Nat) (a0 : List T_api_Rule) (a1 : Str) (a2 : Int) : Nat → Int → Option Bool
  | 0, _ => none
  | m9 + 1, x7_7 => (if (decide (x7_7 < (a0.length : Int))) = true then (if (0 : Int) ≤ x7_7 ∧ x7_7 < (a0.length : Int) then ((decide_Matches k (rd a0 x7_7) a1 a2).bind fun (t11 : Bool) => (if (0 : Int) ≤ x7_7 ∧ x7_7 < (a0.length : Int) then ((watchbillref22_Matches k (rd a0 x7_7) a1 a2).bind fun (t14 : Bool) => (if (!(t11 == t14)) = true then some false else watchbilllaw22_DecideDecides.l0 k a0 a1 a2 m9 (IntKind.i64.wrap (x7_7 + 1)))) else none)) else none) else ((decide_Next k a0 a2).bind fun (t17 : Int × Bool) => ((watchbillref22_Next k a0 a2).bind fun (t19 : Int × Bool) => (if (([] : List T_api_Rule).length + a0.length) * 160 ≤ 140737488355328 then ((decide_Decide k (([] : List T_api_Rule) ++ a0) a1 a2).bind fun (t22 : T_api_Grant) => ((watchbillref22_Decide k a0 a1 a2).bind fun (t24 : T_api_Grant) => ((watchbillref22_Same k t22 t24).bind fun (t26 : Bool) => some ((t26 && (t17.1 == t19.1)) && (t17.2 == t19.2))))) else none))))
def watchbilllaw22_DecideDecides (k : Nat) (a0 : List T_api_Rule) (a1 : Str) (a2 : Int) : Option Bool := ((watchbilllaw22_awake k).bind fun (t1 : Bool) => (if (!t1) = true then some false else ((watchbilllaw18_Few k a0).bind fun (t3 : Bool) => (if ((!t3) || (decide ((a1.length : Int) > 2000))) = true then some true else watchbilllaw22_DecideDecides.l0 k a0 a1 a2 k 0))))
theorem watchbilllaw22_DecideDecides.ok {k : Nat} {a0 : List T_api_Rule} {a1 : Str} {a2 : Int} {r : Bool} (H : watchbilllaw22_DecideDecides k a0 a1 a2 = some r) : Vx.Fn Try.prog 3 [(L 12 e_api_Rule a0), (S a1), (.v (.int .u64 a2))] [] (.v (.bool r)) [] := by
  unfold watchbilllaw22_DecideDecides at H
  refine Vx.Fn.of_okR Try.func3 rfl (Nat.le_of_ble_eq_true rfl) ?_
  refine Ok.seq ?_
  refine Ok.region (σ' := ⟨[(0, (L 12 e_api_Rule a0)), (1, (S a1)), (2, (.v (.int .u64 a2)))], []⟩) ?_ ?_
  · refine .cv (VOk.asg (d := (.v (.bool false))) rfl rfl) rfl rfl ?_
    exact .done (.rf rfl rfl)
  refine Ok.seq ?_
  refine Ok.seq ?_
  obtain ⟨t1, h2, H⟩ := bindE H
  refine Ok.region (σ' := ⟨[(0, (L 12 e_api_Rule a0)), (1, (S a1)), (2, (.v (.int .u64 a2))), (13, (.v (.bool (!t1))))], []⟩) ?_ ?_
  · refine .cg (GOk.call rfl rfl cl7 rfl (watchbilllaw22_awake.ok h2) rfl) rfl rfl ?_
    refine .cv (VOk.not (b := t1) rfl rfl) rfl rfl ?_
    exact .done (.rf rfl rfl)
  refine Ok.test (b := (!t1)) rfl (fun hb34 => ?_) (fun hb34 => ?_)
  · replace H := ifT H hb34
    refine Ok.seq ?_
    refine Ok.region (σ' := ⟨[(6, (.v (.bool false)))], []⟩) ?_ ?_
    · refine .cv (VOk.asg (d := (.v (.bool false))) rfl rfl) rfl rfl ?_
      exact .done (.rf rfl rfl)
    refine Ok.ret ?_
    obtain rfl := Option.some.inj H
    exact ⟨.inl rfl, ⟨_, (.cons (.tmp rfl) .nil), rfl⟩, trivial⟩
  · replace H := ifF H hb34
    refine Ok.skip ?_
    refine Ok.seq ?_
    refine Ok.seq ?_
    obtain ⟨t3, h4, H⟩ := bindE H
    refine Ok.region (σ' := ⟨[(0, (L 12 e_api_Rule a0)), (1, (S a1)), (2, (.v (.int .u64 a2))), (21, (.v (.bool ((!t3) || (decide ((a1.length : Int) > 2000))))))], []⟩) ?_ ?_
    · refine .cv (VOk.mv (d := (L 12 e_api_Rule a0)) rfl rfl) rfl rfl ?_
      refine .cg (GOk.call rfl rfl cl8 rfl (watchbilllaw18_Few.ok h4) rfl) rfl rfl ?_
      refine .cv (VOk.not (b := t3) rfl rfl) rfl rfl ?_
      refine .cv (VOk.mv (d := (.v (.bool (!t3)))) rfl rfl) rfl rfl ?_
      refine OpsOk.consI rfl rfl rfl (.one rfl) rfl (fun hw5 => (VOk.g (VOk.mv (d := (S a1)) rfl rfl))) ?_
      refine OpsOk.consI rfl rfl rfl (.one rfl) rfl (fun hw5 => (GOk.fr (fr' := [(18, (S a1))]) ⟨DLe.of_eq (cT hw5).symm, trivial⟩ (VOk.g (VOk.lenStr (s := a1) rfl Try.underlying9 rfl)))) ?_
      refine OpsOk.consI rfl rfl rfl (.one rfl) rfl (fun hw5 => (GOk.fr (fr' := [(19, (.v (.int .i64 (a1.length : Int))))]) ⟨DLe.of_eq (cT hw5).symm, trivial⟩ (VOk.g (VOk.arith (op := .gtr) (k := .i64) (a := (a1.length : Int)) (b := 2000) rfl rfl rfl rfl)))) ?_
      refine .cv (VOk.to (VOk.pickI (b := (!t3)) (p := true) (q := (decide ((a1.length : Int) > 2000))) rfl rfl (fun hp6 => rfl) (fun hp6 => (cT (f_beq hp6)))) (pickOr (!t3) (decide ((a1.length : Int) > 2000)))) rfl rfl ?_
      exact .done (.rf rfl rfl)
    refine Ok.test (b := ((!t3) || (decide ((a1.length : Int) > 2000)))) rfl (fun hb33 => ?_) (fun hb33 => ?_)
    · replace H := ifT H hb33
      refine Ok.seq ?_
      refine Ok.region (σ' := ⟨[(6, (.v (.bool true)))], []⟩) ?_ ?_
      · refine .cv (VOk.asg (d := (.v (.bool true))) rfl rfl) rfl rfl ?_
        exact .done (.rf rfl rfl)
      refine Ok.ret ?_
      obtain rfl := Option.some.inj H
      exact ⟨.inl rfl, ⟨_, (.cons (.tmp rfl) .nil), rfl⟩, trivial⟩
    · replace H := ifF H hb33
      refine Ok.skip ?_
      refine Ok.seq ?_
      refine Ok.seq ?_
      refine Ok.region (σ' := ⟨[(0, (L 12 e_api_Rule a0)), (1, (S a1)), (2, (.v (.int .u64 a2))), (7, (.v (.int .i64 0)))], []⟩) ?_ ?_
      · refine .cv (VOk.asg (d := (.v (.int .i64 0))) rfl rfl) rfl rfl ?_
        exact .done (.rf rfl rfl)
      refine Ok.block ?_
      refine Ok.le (σ' := ⟨[(0, (L 12 e_api_Rule a0)), (1, (S a1)), (2, (.v (.int .u64 a2))), (7, (.v (.int .i64 0)))], []⟩) (.rf rfl rfl) ?_
      refine Ok.loop (fun m9 σ => ∃ (x7_7 : Int), σ = ⟨[(0, (L 12 e_api_Rule a0)), (1, (S a1)), (2, (.v (.int .u64 a2))), (7, (.v (.int .i64 x7_7)))], []⟩ ∧ watchbilllaw22_DecideDecides.l0 k a0 a1 a2 m9 x7_7 = some r) k ⟨0, rfl, H⟩ ?_
      rintro m9 σ ⟨x7_7, rfl, H⟩
      cases m9 with
      | zero => exact absurd H (by simp [watchbilllaw22_DecideDecides.l0])
      | succ m9 =>
        unfold watchbilllaw22_DecideDecides.l0 at H
        refine Ok.seq ?_
        refine Ok.seq ?_
        refine Ok.region (σ' := ⟨[(0, (L 12 e_api_Rule a0)), (1, (S a1)), (2, (.v (.int .u64 a2))), (7, (.v (.int .i64 x7_7))), (25, (.v (.bool (decide (x7_7 < (a0.length : Int))))))], []⟩) ?_ ?_
        · refine .cv (VOk.mv (d := (.v (.int .i64 x7_7))) rfl rfl) rfl rfl ?_
          refine .cv (VOk.mv (d := (L 12 e_api_Rule a0)) rfl rfl) rfl rfl ?_
          refine .cv (VOk.lenL (e := e_api_Rule) (xs := a0) rfl Try.underlying22 rfl) rfl rfl ?_
          refine .cv (VOk.arith (op := .lss) (k := .i64) (a := x7_7) (b := (a0.length : Int)) rfl rfl rfl rfl) rfl rfl ?_
          exact .done (.rf rfl rfl)
        refine Ok.test (b := (decide (x7_7 < (a0.length : Int)))) rfl (fun hb32 => ?_) (fun hb32 => ?_)
        · replace H := ifT H hb32
          refine Ok.skip ?_
          refine Ok.seq ?_
          refine Ok.block ?_
          refine Ok.seq ?_
          obtain ⟨c10, H⟩ := assertE H
          obtain ⟨t11, h12, H⟩ := bindE H
          obtain ⟨c13, H⟩ := assertE H
          obtain ⟨t14, h15, H⟩ := bindE H
          refine Ok.drawE (σ' := ⟨[(0, (L 12 e_api_Rule a0)), (1, (S a1)), (2, (.v (.int .u64 a2))), (7, (.v (.int .i64 x7_7))), (42, (.v (.bool (!(t11 == t14)))))], []⟩) [⟨true, [(0, (L 12 e_api_Rule a0))], (L 12 e_api_Rule a0)⟩, ⟨true, [(7, (.v (.int .i64 x7_7)))], (.v (.int .i64 x7_7))⟩, ⟨true, [(28, (L 12 e_api_Rule a0)), (29, (.v (.int .i64 x7_7)))], (.fp (e_api_Rule (rd a0 x7_7)) 0)⟩, ⟨true, [(30, (.fp (e_api_Rule (rd a0 x7_7)) 0))], (.agg (e_api_Rule (rd a0 x7_7)))⟩, ⟨true, [(1, (S a1))], (S a1)⟩, ⟨true, [(2, (.v (.int .u64 a2)))], (.v (.int .u64 a2))⟩, ⟨true, [(31, (.agg (e_api_Rule (rd a0 x7_7)))), (32, (S a1)), (33, (.v (.int .u64 a2)))], (.v (.bool t11))⟩, ⟨true, [(0, (L 12 e_api_Rule a0))], (L 12 e_api_Rule a0)⟩, ⟨true, [(7, (.v (.int .i64 x7_7)))], (.v (.int .i64 x7_7))⟩, ⟨true, [(35, (L 12 e_api_Rule a0)), (36, (.v (.int .i64 x7_7)))], (.fp (e_api_Rule (rd a0 x7_7)) 0)⟩, ⟨true, [(37, (.fp (e_api_Rule (rd a0 x7_7)) 0))], (.agg (e_api_Rule (rd a0 x7_7)))⟩, ⟨true, [(1, (S a1))], (S a1)⟩, ⟨true, [(2, (.v (.int .u64 a2)))], (.v (.int .u64 a2))⟩, ⟨true, [(38, (.agg (e_api_Rule (rd a0 x7_7)))), (39, (S a1)), (40, (.v (.int .u64 a2)))], (.v (.bool t14))⟩, ⟨true, [(34, (.v (.bool t11))), (41, (.v (.bool t14)))], (.v (.bool (!(t11 == t14))))⟩] [[], [], [0, 1], [2], [], [], [3, 4, 5], [], [], [7, 8], [9], [], [], [10, 11, 12], [6, 13]] mixed (by kernel_rfl) ?_ ?_
          · refine TxtE.cons rfl ⟨.same _, trivial⟩ rfl (VOk.g (VOk.mv (d := (L 12 e_api_Rule a0)) rfl rfl)) ?_
            refine TxtE.cons rfl ⟨.same _, trivial⟩ rfl (VOk.g (VOk.mv (d := (.v (.int .i64 x7_7))) rfl rfl)) ?_
            refine TxtE.cons rfl ⟨.same _, .same _, trivial⟩ rfl (VOk.g (VOk.indexL (sz := 12) (e := e_api_Rule) (xs := a0) (i := x7_7) rfl Try.underlying22 sz29 rfl rfl c10)) ?_
            refine TxtE.cons rfl ⟨.same _, trivial⟩ rfl (VOk.g (VOk.to (d' := (.agg (e_api_Rule (rd a0 x7_7)))) (.loadFpAgg rfl Try.underlying29 rfl sz29 rfl rfl) rfl)) ?_
            refine TxtE.cons rfl ⟨.same _, trivial⟩ rfl (VOk.g (VOk.mv (d := (S a1)) rfl rfl)) ?_
            refine TxtE.cons rfl ⟨.same _, trivial⟩ rfl (VOk.g (VOk.mv (d := (.v (.int .u64 a2))) rfl rfl)) ?_
            refine TxtE.cons rfl ⟨.same _, .same _, .same _, trivial⟩ rfl (GOk.call rfl rfl cl9 rfl (decide_Matches.ok h12) rfl) ?_
            refine TxtE.cons rfl ⟨.same _, trivial⟩ rfl (VOk.g (VOk.mv (d := (L 12 e_api_Rule a0)) rfl rfl)) ?_
            refine TxtE.cons rfl ⟨.same _, trivial⟩ rfl (VOk.g (VOk.mv (d := (.v (.int .i64 x7_7))) rfl rfl)) ?_
            refine TxtE.cons rfl ⟨.same _, .same _, trivial⟩ rfl (VOk.g (VOk.indexL (sz := 12) (e := e_api_Rule) (xs := a0) (i := x7_7) rfl Try.underlying22 sz29 rfl rfl c13)) ?_
            refine TxtE.cons rfl ⟨.same _, trivial⟩ rfl (VOk.g (VOk.to (d' := (.agg (e_api_Rule (rd a0 x7_7)))) (.loadFpAgg rfl Try.underlying29 rfl sz29 rfl rfl) rfl)) ?_
            refine TxtE.cons rfl ⟨.same _, trivial⟩ rfl (VOk.g (VOk.mv (d := (S a1)) rfl rfl)) ?_
            refine TxtE.cons rfl ⟨.same _, trivial⟩ rfl (VOk.g (VOk.mv (d := (.v (.int .u64 a2))) rfl rfl)) ?_
            refine TxtE.cons rfl ⟨.same _, .same _, .same _, trivial⟩ rfl (GOk.call rfl rfl cl10 rfl (watchbillref22_Matches.ok h15) rfl) ?_
            refine TxtE.cons rfl ⟨.same _, .same _, trivial⟩ rfl (VOk.g (VOk.eqB (op := .neq) (p := t11) (q := t14) rfl (.inr rfl) Try.underlying4 rfl rfl)) ?_
            exact .done (.rf rfl rfl)
          refine Ok.test (b := (!(t11 == t14))) rfl (fun hb16 => ?_) (fun hb16 => ?_)
          · replace H := ifT H hb16
            refine Ok.seq ?_
            refine Ok.region (σ' := ⟨[(6, (.v (.bool false)))], []⟩) ?_ ?_
            · refine .cv (VOk.asg (d := (.v (.bool false))) rfl rfl) rfl rfl ?_
              exact .done (.rf rfl rfl)
            refine Ok.ret ?_
            obtain rfl := Option.some.inj H
            exact ⟨.inl rfl, ⟨_, (.cons (.tmp rfl) .nil), rfl⟩, trivial⟩
          · replace H := ifF H hb16
            refine Ok.skip ?_
            refine Ok.region (σ' := ⟨[(0, (L 12 e_api_Rule a0)), (1, (S a1)), (2, (.v (.int .u64 a2))), (7, (.v (.int .i64 (IntKind.i64.wrap (x7_7 + 1)))))], []⟩) ?_ ?_
            · refine .cv (VOk.mv (d := (.v (.int .i64 x7_7))) rfl rfl) rfl rfl ?_
              refine .cv (VOk.arith (op := .add) (k := .i64) (a := x7_7) (b := 1) rfl rfl rfl rfl) rfl rfl ?_
              refine .cv (VOk.asg (d := (.v (.int .i64 (IntKind.i64.wrap (x7_7 + 1))))) rfl rfl) rfl rfl ?_
              exact .done (.rf rfl rfl)
            exact ⟨m9, Nat.lt_succ_self m9, (IntKind.i64.wrap (x7_7 + 1)), rfl, H⟩
        · replace H := ifF H hb32
          refine Ok.exit ?_
          refine Ok.seq ?_
          obtain ⟨t17, h18, H⟩ := bindE H
          refine Ok.region (σ' := ⟨[(0, (L 12 e_api_Rule a0)), (1, (S a1)), (2, (.v (.int .u64 a2))), (8, (.v (.int .u64 t17.1))), (9, (.v (.bool t17.2)))], []⟩) ?_ ?_
          · refine .cv (VOk.mv (d := (L 12 e_api_Rule a0)) rfl rfl) rfl rfl ?_
            refine .cv (VOk.mv (d := (.v (.int .u64 a2))) rfl rfl) rfl rfl ?_
            refine .cg (GOk.call rfl rfl cl11 rfl (decide_Next.ok h18) rfl) rfl rfl ?_
            refine .cv (VOk.mv (d := (.tup [(.v (.int .u64 t17.1)), (.v (.bool t17.2))])) rfl rfl) rfl rfl ?_
            refine .cv (VOk.extract (d := (.v (.int .u64 t17.1))) rfl rfl rfl) rfl rfl ?_
            refine .cv (VOk.extract (d := (.v (.bool t17.2))) rfl rfl rfl) rfl rfl ?_
            refine .cv (VOk.asg (d := (.v (.int .u64 t17.1))) rfl rfl) rfl rfl ?_
            refine .cv (VOk.asg (d := (.v (.bool t17.2))) rfl rfl) rfl rfl ?_
            exact .done (.rf rfl rfl)
          refine Ok.seq ?_
          obtain ⟨t19, h20, H⟩ := bindE H
          refine Ok.region (σ' := ⟨[(0, (L 12 e_api_Rule a0)), (1, (S a1)), (2, (.v (.int .u64 a2))), (8, (.v (.int .u64 t17.1))), (9, (.v (.bool t17.2))), (10, (.v (.int .u64 t19.1))), (11, (.v (.bool t19.2)))], []⟩) ?_ ?_
          · refine .cv (VOk.mv (d := (L 12 e_api_Rule a0)) rfl rfl) rfl rfl ?_
            refine .cv (VOk.mv (d := (.v (.int .u64 a2))) rfl rfl) rfl rfl ?_
            refine .cg (GOk.call rfl rfl cl12 rfl (watchbillref22_Next.ok h20) rfl) rfl rfl ?_
            refine .cv (VOk.mv (d := (.tup [(.v (.int .u64 t19.1)), (.v (.bool t19.2))])) rfl rfl) rfl rfl ?_
            refine .cv (VOk.extract (d := (.v (.int .u64 t19.1))) rfl rfl rfl) rfl rfl ?_
            refine .cv (VOk.extract (d := (.v (.bool t19.2))) rfl rfl rfl) rfl rfl ?_
            refine .cv (VOk.asg (d := (.v (.int .u64 t19.1))) rfl rfl) rfl rfl ?_
            refine .cv (VOk.asg (d := (.v (.bool t19.2))) rfl rfl) rfl rfl ?_
            exact .done (.rf rfl rfl)
          refine Ok.seq ?_
          obtain ⟨c21, H⟩ := assertE H
          obtain ⟨t22, h23, H⟩ := bindE H
          obtain ⟨t24, h25, H⟩ := bindE H
          obtain ⟨t26, h27, H⟩ := bindE H
          refine Ok.region (σ' := ⟨[(6, (.v (.bool ((t26 && (t17.1 == t19.1)) && (t17.2 == t19.2)))))], []⟩) ?_ ?_
          · refine .cg (GOk.to (d' := (.clist 12 (List.map e_api_Rule ([] : List T_api_Rule)))) (GOk.litC rfl Try.underlying22 sz29 zs29 rfl rfl rfl rfl) rfl) rfl rfl ?_
            refine .cv (VOk.mv (d := (L 12 e_api_Rule a0)) rfl rfl) rfl rfl ?_
            refine .cg (GOk.appendC (e := e_api_Rule) (xs := ([] : List T_api_Rule)) (ys := a0) rfl Try.underlying22 elt29 (.same _) rfl c21) rfl rfl ?_
            refine .cv (VOk.mv (d := (S a1)) rfl rfl) rfl rfl ?_
            refine .cv (VOk.mv (d := (.v (.int .u64 a2))) rfl rfl) rfl rfl ?_
            refine .cg (GOk.call rfl rfl cl14 rfl (decide_Decide.ok h23) rfl) rfl rfl ?_
            refine .cv (VOk.mv (d := (L 12 e_api_Rule a0)) rfl rfl) rfl rfl ?_
            refine .cv (VOk.mv (d := (S a1)) rfl rfl) rfl rfl ?_
            refine .cv (VOk.mv (d := (.v (.int .u64 a2))) rfl rfl) rfl rfl ?_
            refine .cg (GOk.call rfl rfl cl15 rfl (watchbillref22_Decide.ok h25) rfl) rfl rfl ?_
            refine .cg (GOk.call rfl rfl cl13 rfl (watchbillref22_Same.ok h27) rfl) rfl rfl ?_
            refine .cv (VOk.mv (d := (.v (.bool t26))) rfl rfl) rfl rfl ?_
            refine OpsOk.consI rfl rfl rfl (.one rfl) rfl (fun hw28 => (VOk.g (VOk.mv (d := (.v (.int .u64 t17.1))) rfl rfl))) ?_
            refine OpsOk.consI rfl rfl rfl (.one rfl) rfl (fun hw28 => (VOk.g (VOk.mv (d := (.v (.int .u64 t19.1))) rfl rfl))) ?_
            refine OpsOk.consI rfl rfl rfl (.one rfl) rfl (fun hw28 => (GOk.fr (fr' := [(67, (.v (.int .u64 t17.1))), (68, (.v (.int .u64 t19.1)))]) ⟨DLe.of_eq (cT hw28).symm, DLe.of_eq (cT hw28).symm, trivial⟩ (VOk.g (VOk.arith (op := .eql) (k := .u64) (a := t17.1) (b := t19.1) rfl rfl rfl rfl)))) ?_
            refine .cv (VOk.to (VOk.pickI (b := t26) (p := (t17.1 == t19.1)) (q := false) rfl rfl (fun hp29 => (cT (t_beq hp29))) (fun hp29 => rfl)) (pickAnd t26 (t17.1 == t19.1))) rfl rfl ?_
            refine .cv (VOk.mv (d := (.v (.bool (t26 && (t17.1 == t19.1))))) rfl rfl) rfl rfl ?_
            refine OpsOk.consI rfl rfl rfl (.one rfl) rfl (fun hw30 => (VOk.g (VOk.mv (d := (.v (.bool t17.2))) rfl rfl))) ?_
            refine OpsOk.consI rfl rfl rfl (.one rfl) rfl (fun hw30 => (VOk.g (VOk.mv (d := (.v (.bool t19.2))) rfl rfl))) ?_
            refine OpsOk.consI rfl rfl rfl (.one rfl) rfl (fun hw30 => (GOk.fr (fr' := [(72, (.v (.bool t17.2))), (73, (.v (.bool t19.2)))]) ⟨DLe.of_eq (cT hw30).symm, DLe.of_eq (cT hw30).symm, trivial⟩ (VOk.g (VOk.eqB (op := .eql) (p := t17.2) (q := t19.2) rfl (.inl rfl) Try.underlying4 rfl rfl)))) ?_
            refine .cv (VOk.to (VOk.pickI (b := (t26 && (t17.1 == t19.1))) (p := (t17.2 == t19.2)) (q := false) rfl rfl (fun hp31 => (cT (t_beq hp31))) (fun hp31 => rfl)) (pickAnd (t26 && (t17.1 == t19.1)) (t17.2 == t19.2))) rfl rfl ?_
            refine .cv (VOk.asg (d := (.v (.bool ((t26 && (t17.1 == t19.1)) && (t17.2 == t19.2))))) rfl rfl) rfl rfl ?_
            exact .done (.rf rfl rfl)
          refine Ok.ret ?_
          obtain rfl := Option.some.inj H
          exact ⟨.inl rfl, ⟨_, (.cons (.tmp rfl) .nil), rfl⟩, trivial⟩

/-! watchbill/watchbilllaw22.below: function 16 -/
def watchbilllaw22_below.l1 (k : Nat) (c0 : Int → Bool → List Str → Bool → Bool → Int → Bool → List Str → Bool → Bool → Int → Option Bool) (x5_13 : Int) : Nat → Int → Bool → List Str → Bool → Bool → Int → Bool → List Str → Bool → Bool → Bool → Int → Option Bool
  | 0, _, _, _, _, _, _, _, _, _, _, _, _ => none
  | m62 + 1, y2_0_40, y2_1_41, y2_2_42, y2_3_43, y2_4_44, y3_0_45, y3_1_46, y3_2_47, y3_3_48, y3_4_49, x6_38, x7_39 => (if (decide (x7_39 < (y3_2_47.length : Int))) = true then (if ((x6_38 == false) = true → (0 : Int) ≤ x7_39 ∧ x7_39 < (y3_2_47.length : Int)) then (if ((x6_38 == false) = true → (0 : Int) ≤ x5_13 ∧ x5_13 < (y2_2_42.length : Int)) then watchbilllaw22_below.l1 k c0 x5_13 m62 y2_0_40 y2_1_41 y2_2_42 y2_3_43 y2_4_44 y3_0_45 y3_1_46 y3_2_47 y3_3_48 y3_4_49 (x6_38 || ((rd y3_2_47 x7_39) == (rd y2_2_42 x5_13))) (IntKind.i64.wrap (x7_39 + 1)) else none) else none) else (if (!x6_38) = true then some false else c0 y2_0_40 y2_1_41 y2_2_42 y2_3_43 y2_4_44 y3_0_45 y3_1_46 y3_2_47 y3_3_48 y3_4_49 (IntKind.i64.wrap (x5_13 + 1))))
def watchbilllaw22_below.l0 (k : Nat) : Nat → Int → Bool → List Str → Bool → Bool → Int → Bool → List Str → Bool → Bool → Int → Option Bool
  | 0, _, _, _, _, _, _, _, _, _, _, _ => none
  | m35 + 1, y2_0_14, y2_1_15, y2_2_16, y2_3_17, y2_4_18, y3_0_19, y3_1_20, y3_2_21, y3_3_22, y3_4_23, x5_13 => (if ((decide (x5_13 < (y2_2_16.length : Int))) && (!y3_1_20)) = true then watchbilllaw22_below.l1 k (watchbilllaw22_below.l0 k m35) x5_13 k y2_0_14 y2_1_15 y2_2_16 y2_3_17 y2_4_18 y3_0_19 y3_1_20 y3_2_21 y3_3_22 y3_4_23 false 0 else some true)
def watchbilllaw22_below (k : Nat) (a0 : T_api_Grant) (a1 : T_api_Grant) : Option Bool := (if ((((decide (a0.Handling > a1.Handling)) || (a0.All && (!a1.All))) || (a0.Notes && (!a1.Notes))) || (a0.Contact && (!a1.Contact))) = true then some false else watchbilllaw22_below.l0 k k a0.Handling a0.All a0.Class a0.Notes a0.Contact a1.Handling a1.All a1.Class a1.Notes a1.Contact 0)
theorem watchbilllaw22_below.ok {k : Nat} {a0 : T_api_Grant} {a1 : T_api_Grant} {r : Bool} (H : watchbilllaw22_below k a0 a1 = some r) : Vx.Fn Try.prog 16 [(.agg (e_api_Grant a0)), (.agg (e_api_Grant a1))] [] (.v (.bool r)) [] := by
  unfold watchbilllaw22_below at H
  refine Vx.Fn.of_okR Try.func16 rfl (Nat.le_of_ble_eq_true rfl) ?_
  refine Ok.seq ?_
  refine Ok.region (σ' := ⟨[(2, (.bref 2 0)), (3, (.bref 3 0))], [(2, (.box .ex (c_api_Grant a0))), (3, (.box .ex (c_api_Grant a1)))]⟩) ?_ ?_
  · refine OpsOk.cons rfl (OpOk.box 2 (cells := [(.v (.int .i64 a0.Handling)), (.v (.bool a0.All)), (L 1 eS a0.Class), (.v (.bool a0.Notes)), (.v (.bool a0.Contact))]) rfl rfl rfl rfl) ?_
    refine OpsOk.cons rfl (OpOk.box 3 (cells := [(.v (.int .i64 a1.Handling)), (.v (.bool a1.All)), (L 1 eS a1.Class), (.v (.bool a1.Notes)), (.v (.bool a1.Contact))]) rfl rfl rfl rfl) ?_
    refine .cv (VOk.asg (d := (.v (.bool false))) rfl rfl) rfl rfl ?_
    exact .done (.rf rfl rfl)
  refine Ok.seq ?_
  refine Ok.seq ?_
  refine Ok.region (σ' := ⟨[(2, (.bref 2 0)), (3, (.bref 3 0)), (39, (.v (.bool ((((decide (a0.Handling > a1.Handling)) || (a0.All && (!a1.All))) || (a0.Notes && (!a1.Notes))) || (a0.Contact && (!a1.Contact))))))], [(2, (.box .ex (c_api_Grant a0))), (3, (.box .ex (c_api_Grant a1)))]⟩) ?_ ?_
  · refine .cv (VOk.to (VOk.fieldB rfl Try.underlying34 rfl sz3 rfl rfl) rfl) rfl rfl ?_
    refine .cv (VOk.loadB (d := (.v (.int .i64 a0.Handling))) rfl Try.underlying3 rfl rfl rfl rfl) rfl rfl ?_
    refine .cv (VOk.to (VOk.fieldB rfl Try.underlying34 rfl sz3 rfl rfl) rfl) rfl rfl ?_
    refine .cv (VOk.loadB (d := (.v (.int .i64 a1.Handling))) rfl Try.underlying3 rfl rfl rfl rfl) rfl rfl ?_
    refine .cv (VOk.arith (op := .gtr) (k := .i64) (a := a0.Handling) (b := a1.Handling) rfl rfl rfl rfl) rfl rfl ?_
    refine .cv (VOk.mv (d := (.v (.bool (decide (a0.Handling > a1.Handling))))) rfl rfl) rfl rfl ?_
    refine OpsOk.consI rfl rfl rfl (.one rfl) rfl (fun hw1 => (VOk.g (VOk.to (VOk.fieldB rfl Try.underlying34 rfl sz4 rfl rfl) rfl))) ?_
    refine OpsOk.consI rfl rfl rfl (.one rfl) rfl (fun hw1 => (GOk.fr (fr' := [(14, (.bref 2 1))]) ⟨DLe.of_eq (cT hw1).symm, trivial⟩ (VOk.g (VOk.loadB (d := (.v (.bool a0.All))) rfl Try.underlying4 rfl rfl rfl rfl)))) ?_
    refine OpsOk.consI rfl rfl rfl (.one rfl) rfl (fun hw1 => (GOk.fr (fr' := [(15, (.v (.bool a0.All)))]) ⟨DLe.of_eq (cT hw1).symm, trivial⟩ (VOk.g (VOk.mv (d := (.v (.bool a0.All))) rfl rfl)))) ?_
    refine OpsOk.consI rfl rfl rfl (.two rfl) rfl (fun hw2 => (VOk.g (VOk.to (VOk.fieldB rfl Try.underlying34 rfl sz4 rfl rfl) rfl))) ?_
    refine OpsOk.consI rfl rfl rfl (.two rfl) rfl (fun hw2 => (GOk.fr (fr' := [(17, (.bref 3 1))]) ⟨DLe.of_eq (cT hw2).symm, trivial⟩ (VOk.g (VOk.loadB (d := (.v (.bool a1.All))) rfl Try.underlying4 rfl rfl rfl rfl)))) ?_
    refine OpsOk.consI rfl rfl rfl (.two rfl) rfl (fun hw2 => (GOk.fr (fr' := [(18, (.v (.bool a1.All)))]) ⟨DLe.of_eq (cT hw2).symm, trivial⟩ (VOk.g (VOk.not (b := a1.All) rfl rfl)))) ?_
    refine OpsOk.consI rfl rfl rfl (.one rfl) rfl (fun hw1 => (VOk.g (VOk.to (VOk.pickI (b := a0.All) (p := (!a1.All)) (q := false) rfl (cT hw1) (fun hp3 => (cT (and_i hw1 (t_beq hp3)))) (fun hp3 => rfl)) (pickAnd a0.All (!a1.All))))) ?_
    refine .cv (VOk.to (VOk.pickI (b := (decide (a0.Handling > a1.Handling))) (p := true) (q := (a0.All && (!a1.All))) rfl rfl (fun hp4 => rfl) (fun hp4 => (cT (f_beq hp4)))) (pickOr (decide (a0.Handling > a1.Handling)) (a0.All && (!a1.All)))) rfl rfl ?_
    refine .cv (VOk.mv (d := (.v (.bool ((decide (a0.Handling > a1.Handling)) || (a0.All && (!a1.All)))))) rfl rfl) rfl rfl ?_
    refine OpsOk.consI rfl rfl rfl (.one rfl) rfl (fun hw5 => (VOk.g (VOk.to (VOk.fieldB rfl Try.underlying34 rfl sz4 rfl rfl) rfl))) ?_
    refine OpsOk.consI rfl rfl rfl (.one rfl) rfl (fun hw5 => (GOk.fr (fr' := [(23, (.bref 2 3))]) ⟨DLe.of_eq (cT hw5).symm, trivial⟩ (VOk.g (VOk.loadB (d := (.v (.bool a0.Notes))) rfl Try.underlying4 rfl rfl rfl rfl)))) ?_
    refine OpsOk.consI rfl rfl rfl (.one rfl) rfl (fun hw5 => (GOk.fr (fr' := [(24, (.v (.bool a0.Notes)))]) ⟨DLe.of_eq (cT hw5).symm, trivial⟩ (VOk.g (VOk.mv (d := (.v (.bool a0.Notes))) rfl rfl)))) ?_
    refine OpsOk.consI rfl rfl rfl (.two rfl) rfl (fun hw6 => (VOk.g (VOk.to (VOk.fieldB rfl Try.underlying34 rfl sz4 rfl rfl) rfl))) ?_
    refine OpsOk.consI rfl rfl rfl (.two rfl) rfl (fun hw6 => (GOk.fr (fr' := [(26, (.bref 3 3))]) ⟨DLe.of_eq (cT hw6).symm, trivial⟩ (VOk.g (VOk.loadB (d := (.v (.bool a1.Notes))) rfl Try.underlying4 rfl rfl rfl rfl)))) ?_
    refine OpsOk.consI rfl rfl rfl (.two rfl) rfl (fun hw6 => (GOk.fr (fr' := [(27, (.v (.bool a1.Notes)))]) ⟨DLe.of_eq (cT hw6).symm, trivial⟩ (VOk.g (VOk.not (b := a1.Notes) rfl rfl)))) ?_
    refine OpsOk.consI rfl rfl rfl (.one rfl) rfl (fun hw5 => (VOk.g (VOk.to (VOk.pickI (b := a0.Notes) (p := (!a1.Notes)) (q := false) rfl (cT hw5) (fun hp7 => (cT (and_i hw5 (t_beq hp7)))) (fun hp7 => rfl)) (pickAnd a0.Notes (!a1.Notes))))) ?_
    refine .cv (VOk.to (VOk.pickI (b := ((decide (a0.Handling > a1.Handling)) || (a0.All && (!a1.All)))) (p := true) (q := (a0.Notes && (!a1.Notes))) rfl rfl (fun hp8 => rfl) (fun hp8 => (cT (f_beq hp8)))) (pickOr ((decide (a0.Handling > a1.Handling)) || (a0.All && (!a1.All))) (a0.Notes && (!a1.Notes)))) rfl rfl ?_
    refine .cv (VOk.mv (d := (.v (.bool (((decide (a0.Handling > a1.Handling)) || (a0.All && (!a1.All))) || (a0.Notes && (!a1.Notes)))))) rfl rfl) rfl rfl ?_
    refine OpsOk.consI rfl rfl rfl (.one rfl) rfl (fun hw9 => (VOk.g (VOk.to (VOk.fieldB rfl Try.underlying34 rfl sz4 rfl rfl) rfl))) ?_
    refine OpsOk.consI rfl rfl rfl (.one rfl) rfl (fun hw9 => (GOk.fr (fr' := [(32, (.bref 2 4))]) ⟨DLe.of_eq (cT hw9).symm, trivial⟩ (VOk.g (VOk.loadB (d := (.v (.bool a0.Contact))) rfl Try.underlying4 rfl rfl rfl rfl)))) ?_
    refine OpsOk.consI rfl rfl rfl (.one rfl) rfl (fun hw9 => (GOk.fr (fr' := [(33, (.v (.bool a0.Contact)))]) ⟨DLe.of_eq (cT hw9).symm, trivial⟩ (VOk.g (VOk.mv (d := (.v (.bool a0.Contact))) rfl rfl)))) ?_
    refine OpsOk.consI rfl rfl rfl (.two rfl) rfl (fun hw10 => (VOk.g (VOk.to (VOk.fieldB rfl Try.underlying34 rfl sz4 rfl rfl) rfl))) ?_
    refine OpsOk.consI rfl rfl rfl (.two rfl) rfl (fun hw10 => (GOk.fr (fr' := [(35, (.bref 3 4))]) ⟨DLe.of_eq (cT hw10).symm, trivial⟩ (VOk.g (VOk.loadB (d := (.v (.bool a1.Contact))) rfl Try.underlying4 rfl rfl rfl rfl)))) ?_
    refine OpsOk.consI rfl rfl rfl (.two rfl) rfl (fun hw10 => (GOk.fr (fr' := [(36, (.v (.bool a1.Contact)))]) ⟨DLe.of_eq (cT hw10).symm, trivial⟩ (VOk.g (VOk.not (b := a1.Contact) rfl rfl)))) ?_
    refine OpsOk.consI rfl rfl rfl (.one rfl) rfl (fun hw9 => (VOk.g (VOk.to (VOk.pickI (b := a0.Contact) (p := (!a1.Contact)) (q := false) rfl (cT hw9) (fun hp11 => (cT (and_i hw9 (t_beq hp11)))) (fun hp11 => rfl)) (pickAnd a0.Contact (!a1.Contact))))) ?_
    refine .cv (VOk.to (VOk.pickI (b := (((decide (a0.Handling > a1.Handling)) || (a0.All && (!a1.All))) || (a0.Notes && (!a1.Notes)))) (p := true) (q := (a0.Contact && (!a1.Contact))) rfl rfl (fun hp12 => rfl) (fun hp12 => (cT (f_beq hp12)))) (pickOr (((decide (a0.Handling > a1.Handling)) || (a0.All && (!a1.All))) || (a0.Notes && (!a1.Notes))) (a0.Contact && (!a1.Contact)))) rfl rfl ?_
    exact .done (.rf rfl rfl)
  refine Ok.test (b := ((((decide (a0.Handling > a1.Handling)) || (a0.All && (!a1.All))) || (a0.Notes && (!a1.Notes))) || (a0.Contact && (!a1.Contact)))) rfl (fun hb70 => ?_) (fun hb70 => ?_)
  · replace H := ifT H hb70
    refine Ok.seq ?_
    refine Ok.region (σ' := ⟨[(4, (.v (.bool false)))], []⟩) ?_ ?_
    · refine .cv (VOk.asg (d := (.v (.bool false))) rfl rfl) rfl rfl ?_
      exact .done (.rf rfl rfl)
    refine Ok.ret ?_
    obtain rfl := Option.some.inj H
    exact ⟨.inl rfl, ⟨_, (.cons (.tmp rfl) .nil), rfl⟩, trivial⟩
  · replace H := ifF H hb70
    refine Ok.skip ?_
    refine Ok.seq ?_
    refine Ok.seq ?_
    refine Ok.region (σ' := ⟨[(2, (.bref 2 0)), (3, (.bref 3 0)), (5, (.v (.int .i64 0)))], [(2, (.box .ex (c_api_Grant a0))), (3, (.box .ex (c_api_Grant a1)))]⟩) ?_ ?_
    · refine .cv (VOk.asg (d := (.v (.int .i64 0))) rfl rfl) rfl rfl ?_
      exact .done (.rf rfl rfl)
    refine Ok.block ?_
    refine Ok.le (σ' := ⟨[(2, (.bref 2 0)), (3, (.bref 3 0)), (5, (.v (.int .i64 0)))], [(2, (.box .ex (c_api_Grant a0))), (3, (.box .ex (c_api_Grant a1)))]⟩) (.rf rfl rfl) ?_
    refine Ok.loop (fun m35 σ => ∃ (y2_0_14 : Int) (y2_1_15 : Bool) (y2_2_16 : List Str) (y2_3_17 : Bool) (y2_4_18 : Bool) (y3_0_19 : Int) (y3_1_20 : Bool) (y3_2_21 : List Str) (y3_3_22 : Bool) (y3_4_23 : Bool) (x5_13 : Int), σ = ⟨[(2, (.bref 2 0)), (3, (.bref 3 0)), (5, (.v (.int .i64 x5_13)))], [(2, (.box .ex [(.v (.int .i64 y2_0_14)), (.v (.bool y2_1_15)), (L 1 eS y2_2_16), (.v (.bool y2_3_17)), (.v (.bool y2_4_18))])), (3, (.box .ex [(.v (.int .i64 y3_0_19)), (.v (.bool y3_1_20)), (L 1 eS y3_2_21), (.v (.bool y3_3_22)), (.v (.bool y3_4_23))]))]⟩ ∧ watchbilllaw22_below.l0 k m35 y2_0_14 y2_1_15 y2_2_16 y2_3_17 y2_4_18 y3_0_19 y3_1_20 y3_2_21 y3_3_22 y3_4_23 x5_13 = some r) k ⟨a0.Handling, a0.All, a0.Class, a0.Notes, a0.Contact, a1.Handling, a1.All, a1.Class, a1.Notes, a1.Contact, 0, rfl, H⟩ ?_
    rintro m35 σ ⟨y2_0_14, y2_1_15, y2_2_16, y2_3_17, y2_4_18, y3_0_19, y3_1_20, y3_2_21, y3_3_22, y3_4_23, x5_13, rfl, H⟩
    cases m35 with
    | zero => exact absurd H (by simp [watchbilllaw22_below.l0])
    | succ m35 =>
      unfold watchbilllaw22_below.l0 at H
      refine Ok.seq ?_
      refine Ok.seq ?_
      refine Ok.region (σ' := ⟨[(2, (.bref 2 0)), (3, (.bref 3 0)), (5, (.v (.int .i64 x5_13))), (49, (.v (.bool ((decide (x5_13 < (y2_2_16.length : Int))) && (!y3_1_20)))))], [(2, (.box .ex [(.v (.int .i64 y2_0_14)), (.v (.bool y2_1_15)), (L 1 eS y2_2_16), (.v (.bool y2_3_17)), (.v (.bool y2_4_18))])), (3, (.box .ex [(.v (.int .i64 y3_0_19)), (.v (.bool y3_1_20)), (L 1 eS y3_2_21), (.v (.bool y3_3_22)), (.v (.bool y3_4_23))]))]⟩) ?_ ?_
      · refine .cv (VOk.mv (d := (.v (.int .i64 x5_13))) rfl rfl) rfl rfl ?_
        refine .cv (VOk.to (VOk.fieldB rfl Try.underlying34 rfl sz27 rfl rfl) rfl) rfl rfl ?_
        refine .cv (VOk.loadB (d := (L 1 eS y2_2_16)) rfl Try.underlying27 rfl rfl rfl rfl) rfl rfl ?_
        refine .cv (VOk.lenL (e := eS) (xs := y2_2_16) rfl Try.underlying27 rfl) rfl rfl ?_
        refine .cv (VOk.arith (op := .lss) (k := .i64) (a := x5_13) (b := (y2_2_16.length : Int)) rfl rfl rfl rfl) rfl rfl ?_
        refine .cv (VOk.mv (d := (.v (.bool (decide (x5_13 < (y2_2_16.length : Int)))))) rfl rfl) rfl rfl ?_
        refine OpsOk.consI rfl rfl rfl (.one rfl) rfl (fun hw36 => (VOk.g (VOk.to (VOk.fieldB rfl Try.underlying34 rfl sz4 rfl rfl) rfl))) ?_
        refine OpsOk.consI rfl rfl rfl (.one rfl) rfl (fun hw36 => (GOk.fr (fr' := [(46, (.bref 3 1))]) ⟨DLe.of_eq (cT hw36).symm, trivial⟩ (VOk.g (VOk.loadB (d := (.v (.bool y3_1_20))) rfl Try.underlying4 rfl rfl rfl rfl)))) ?_
        refine OpsOk.consI rfl rfl rfl (.one rfl) rfl (fun hw36 => (GOk.fr (fr' := [(47, (.v (.bool y3_1_20)))]) ⟨DLe.of_eq (cT hw36).symm, trivial⟩ (VOk.g (VOk.not (b := y3_1_20) rfl rfl)))) ?_
        refine .cv (VOk.to (VOk.pickI (b := (decide (x5_13 < (y2_2_16.length : Int)))) (p := (!y3_1_20)) (q := false) rfl rfl (fun hp37 => (cT (t_beq hp37))) (fun hp37 => rfl)) (pickAnd (decide (x5_13 < (y2_2_16.length : Int))) (!y3_1_20))) rfl rfl ?_
        exact .done (.rf rfl rfl)
      refine Ok.test (b := ((decide (x5_13 < (y2_2_16.length : Int))) && (!y3_1_20))) rfl (fun hb69 => ?_) (fun hb69 => ?_)
      · replace H := ifT H hb69
        refine Ok.skip ?_
        refine Ok.seq ?_
        refine Ok.block ?_
        refine Ok.seq ?_
        refine Ok.region (σ' := ⟨[(2, (.bref 2 0)), (3, (.bref 3 0)), (5, (.v (.int .i64 x5_13))), (6, (.v (.bool false)))], [(2, (.box .ex [(.v (.int .i64 y2_0_14)), (.v (.bool y2_1_15)), (L 1 eS y2_2_16), (.v (.bool y2_3_17)), (.v (.bool y2_4_18))])), (3, (.box .ex [(.v (.int .i64 y3_0_19)), (.v (.bool y3_1_20)), (L 1 eS y3_2_21), (.v (.bool y3_3_22)), (.v (.bool y3_4_23))]))]⟩) ?_ ?_
        · refine .cv (VOk.asg (d := (.v (.bool false))) rfl rfl) rfl rfl ?_
          exact .done (.rf rfl rfl)
        refine Ok.seq ?_
        refine Ok.seq ?_
        refine Ok.region (σ' := ⟨[(2, (.bref 2 0)), (3, (.bref 3 0)), (5, (.v (.int .i64 x5_13))), (6, (.v (.bool false))), (7, (.v (.int .i64 0)))], [(2, (.box .ex [(.v (.int .i64 y2_0_14)), (.v (.bool y2_1_15)), (L 1 eS y2_2_16), (.v (.bool y2_3_17)), (.v (.bool y2_4_18))])), (3, (.box .ex [(.v (.int .i64 y3_0_19)), (.v (.bool y3_1_20)), (L 1 eS y3_2_21), (.v (.bool y3_3_22)), (.v (.bool y3_4_23))]))]⟩) ?_ ?_
        · refine .cv (VOk.asg (d := (.v (.int .i64 0))) rfl rfl) rfl rfl ?_
          exact .done (.rf rfl rfl)
        refine Ok.block ?_
        refine Ok.le (σ' := ⟨[(2, (.bref 2 0)), (3, (.bref 3 0)), (5, (.v (.int .i64 x5_13))), (6, (.v (.bool false))), (7, (.v (.int .i64 0)))], [(2, (.box .ex [(.v (.int .i64 y2_0_14)), (.v (.bool y2_1_15)), (L 1 eS y2_2_16), (.v (.bool y2_3_17)), (.v (.bool y2_4_18))])), (3, (.box .ex [(.v (.int .i64 y3_0_19)), (.v (.bool y3_1_20)), (L 1 eS y3_2_21), (.v (.bool y3_3_22)), (.v (.bool y3_4_23))]))]⟩) (.rf rfl rfl) ?_
        refine Ok.loop (fun m62 σ => ∃ (y2_0_40 : Int) (y2_1_41 : Bool) (y2_2_42 : List Str) (y2_3_43 : Bool) (y2_4_44 : Bool) (y3_0_45 : Int) (y3_1_46 : Bool) (y3_2_47 : List Str) (y3_3_48 : Bool) (y3_4_49 : Bool) (x6_38 : Bool) (x7_39 : Int), σ = ⟨[(2, (.bref 2 0)), (3, (.bref 3 0)), (5, (.v (.int .i64 x5_13))), (6, (.v (.bool x6_38))), (7, (.v (.int .i64 x7_39)))], [(2, (.box .ex [(.v (.int .i64 y2_0_40)), (.v (.bool y2_1_41)), (L 1 eS y2_2_42), (.v (.bool y2_3_43)), (.v (.bool y2_4_44))])), (3, (.box .ex [(.v (.int .i64 y3_0_45)), (.v (.bool y3_1_46)), (L 1 eS y3_2_47), (.v (.bool y3_3_48)), (.v (.bool y3_4_49))]))]⟩ ∧ watchbilllaw22_below.l1 k (watchbilllaw22_below.l0 k m35) x5_13 m62 y2_0_40 y2_1_41 y2_2_42 y2_3_43 y2_4_44 y3_0_45 y3_1_46 y3_2_47 y3_3_48 y3_4_49 x6_38 x7_39 = some r) k ⟨y2_0_14, y2_1_15, y2_2_16, y2_3_17, y2_4_18, y3_0_19, y3_1_20, y3_2_21, y3_3_22, y3_4_23, false, 0, rfl, H⟩ ?_
        rintro m62 σ ⟨y2_0_40, y2_1_41, y2_2_42, y2_3_43, y2_4_44, y3_0_45, y3_1_46, y3_2_47, y3_3_48, y3_4_49, x6_38, x7_39, rfl, H⟩
        cases m62 with
        | zero => exact absurd H (by simp [watchbilllaw22_below.l1])
        | succ m62 =>
          unfold watchbilllaw22_below.l1 at H
          refine Ok.seq ?_
          refine Ok.seq ?_
          refine Ok.region (σ' := ⟨[(2, (.bref 2 0)), (3, (.bref 3 0)), (5, (.v (.int .i64 x5_13))), (6, (.v (.bool x6_38))), (7, (.v (.int .i64 x7_39))), (56, (.v (.bool (decide (x7_39 < (y3_2_47.length : Int))))))], [(2, (.box .ex [(.v (.int .i64 y2_0_40)), (.v (.bool y2_1_41)), (L 1 eS y2_2_42), (.v (.bool y2_3_43)), (.v (.bool y2_4_44))])), (3, (.box .ex [(.v (.int .i64 y3_0_45)), (.v (.bool y3_1_46)), (L 1 eS y3_2_47), (.v (.bool y3_3_48)), (.v (.bool y3_4_49))]))]⟩) ?_ ?_
          · refine .cv (VOk.mv (d := (.v (.int .i64 x7_39))) rfl rfl) rfl rfl ?_
            refine .cv (VOk.to (VOk.fieldB rfl Try.underlying34 rfl sz27 rfl rfl) rfl) rfl rfl ?_
            refine .cv (VOk.loadB (d := (L 1 eS y3_2_47)) rfl Try.underlying27 rfl rfl rfl rfl) rfl rfl ?_
            refine .cv (VOk.lenL (e := eS) (xs := y3_2_47) rfl Try.underlying27 rfl) rfl rfl ?_
            refine .cv (VOk.arith (op := .lss) (k := .i64) (a := x7_39) (b := (y3_2_47.length : Int)) rfl rfl rfl rfl) rfl rfl ?_
            exact .done (.rf rfl rfl)
          refine Ok.test (b := (decide (x7_39 < (y3_2_47.length : Int)))) rfl (fun hb68 => ?_) (fun hb68 => ?_)
          · replace H := ifT H hb68
            refine Ok.skip ?_
            refine Ok.seq ?_
            refine Ok.block ?_
            obtain ⟨c64, H⟩ := assertE H
            obtain ⟨c65, H⟩ := assertE H
            refine Ok.drawE (σ' := ⟨[(2, (.bref 2 0)), (3, (.bref 3 0)), (5, (.v (.int .i64 x5_13))), (6, (.v (.bool (x6_38 || ((rd y3_2_47 x7_39) == (rd y2_2_42 x5_13)))))), (7, (.v (.int .i64 x7_39)))], [(2, (.box .ex [(.v (.int .i64 y2_0_40)), (.v (.bool y2_1_41)), (L 1 eS y2_2_42), (.v (.bool y2_3_43)), (.v (.bool y2_4_44))])), (3, (.box .ex [(.v (.int .i64 y3_0_45)), (.v (.bool y3_1_46)), (L 1 eS y3_2_47), (.v (.bool y3_3_48)), (.v (.bool y3_4_49))]))]⟩) [⟨true, [(6, (.v (.bool x6_38)))], (.v (.bool x6_38))⟩, ⟨true, [(59, (.v (.bool x6_38)))], (.v (.bool x6_38))⟩, It.I (x6_38 == false) [(3, (.bref 3 0)), (60, (.v (.bool x6_38)))] (.bref 3 2), It.I (x6_38 == false) [(61, (bif (x6_38 == false) then (.bref 3 2) else .v undef)), (60, (.v (.bool x6_38)))] (L 1 eS y3_2_47), It.I (x6_38 == false) [(7, (.v (.int .i64 x7_39))), (60, (.v (.bool x6_38)))] (.v (.int .i64 x7_39)), It.I (x6_38 == false) [(62, (bif (x6_38 == false) then (L 1 eS y3_2_47) else .v undef)), (63, (bif (x6_38 == false) then (.v (.int .i64 x7_39)) else .v undef)), (60, (.v (.bool x6_38)))] (.fp (eS (rd y3_2_47 x7_39)) 0), It.I (x6_38 == false) [(64, (bif (x6_38 == false) then (.fp (eS (rd y3_2_47 x7_39)) 0) else .v undef)), (60, (.v (.bool x6_38)))] (S (rd y3_2_47 x7_39)), It.I (x6_38 == false) [(2, (.bref 2 0)), (60, (.v (.bool x6_38)))] (.bref 2 2), It.I (x6_38 == false) [(66, (bif (x6_38 == false) then (.bref 2 2) else .v undef)), (60, (.v (.bool x6_38)))] (L 1 eS y2_2_42), It.I (x6_38 == false) [(5, (.v (.int .i64 x5_13))), (60, (.v (.bool x6_38)))] (.v (.int .i64 x5_13)), It.I (x6_38 == false) [(67, (bif (x6_38 == false) then (L 1 eS y2_2_42) else .v undef)), (68, (bif (x6_38 == false) then (.v (.int .i64 x5_13)) else .v undef)), (60, (.v (.bool x6_38)))] (.fp (eS (rd y2_2_42 x5_13)) 0), It.I (x6_38 == false) [(69, (bif (x6_38 == false) then (.fp (eS (rd y2_2_42 x5_13)) 0) else .v undef)), (60, (.v (.bool x6_38)))] (S (rd y2_2_42 x5_13)), It.I (x6_38 == false) [(65, (bif (x6_38 == false) then (S (rd y3_2_47 x7_39)) else .v undef)), (70, (bif (x6_38 == false) then (S (rd y2_2_42 x5_13)) else .v undef)), (60, (.v (.bool x6_38)))] (.v (.bool ((rd y3_2_47 x7_39) == (rd y2_2_42 x5_13)))), ⟨true, [(60, (.v (.bool x6_38))), (71, (bif (x6_38 == false) then (.v (.bool ((rd y3_2_47 x7_39) == (rd y2_2_42 x5_13)))) else .v undef))], (.v (.bool (x6_38 || ((rd y3_2_47 x7_39) == (rd y2_2_42 x5_13)))))⟩, ⟨true, [(72, (.v (.bool (x6_38 || ((rd y3_2_47 x7_39) == (rd y2_2_42 x5_13))))))], (.v (.bool (x6_38 || ((rd y3_2_47 x7_39) == (rd y2_2_42 x5_13)))))⟩] [[], [0], [1], [1, 2], [1], [1, 3, 4], [1, 5], [1], [1, 7], [1], [1, 8, 9], [1, 10], [1, 6, 11], [1, 12], [0, 13]] mixed (by kernel_rfl) ?_ ?_
            · refine TxtE.cons rfl ⟨.same _, trivial⟩ rfl (VOk.g (VOk.mv (d := (.v (.bool x6_38))) rfl rfl)) ?_
              refine TxtE.cons rfl ⟨.same _, trivial⟩ rfl (VOk.g (VOk.mv (d := (.v (.bool x6_38))) rfl rfl)) ?_
              refine TxtE.consI rfl ⟨.same _, .same _, trivial⟩ rfl rfl (.one rfl) (fun hw63 => (VOk.g (VOk.to (VOk.fieldB rfl Try.underlying34 rfl sz27 rfl rfl) rfl))) ?_
              refine TxtE.consI rfl ⟨.same _, .same _, trivial⟩ rfl rfl (.one rfl) (fun hw63 => (GOk.fr (fr' := [(61, (.bref 3 2))]) ⟨DLe.of_eq (cT hw63).symm, trivial⟩ (VOk.g (VOk.loadB (d := (L 1 eS y3_2_47)) rfl Try.underlying27 rfl rfl rfl rfl)))) ?_
              refine TxtE.consI rfl ⟨.same _, .same _, trivial⟩ rfl rfl (.one rfl) (fun hw63 => (VOk.g (VOk.mv (d := (.v (.int .i64 x7_39))) rfl rfl))) ?_
              refine TxtE.consI rfl ⟨.same _, .same _, .same _, trivial⟩ rfl rfl (.one rfl) (fun hw63 => (GOk.fr (fr' := [(62, (L 1 eS y3_2_47)), (63, (.v (.int .i64 x7_39)))]) ⟨DLe.of_eq (cT hw63).symm, DLe.of_eq (cT hw63).symm, trivial⟩ (VOk.g (VOk.indexL (sz := 1) (e := eS) (xs := y3_2_47) (i := x7_39) rfl Try.underlying27 sz9 rfl rfl (c64 hw63))))) ?_
              refine TxtE.consI rfl ⟨.same _, .same _, trivial⟩ rfl rfl (.one rfl) (fun hw63 => (GOk.fr (fr' := [(64, (.fp (eS (rd y3_2_47 x7_39)) 0))]) ⟨DLe.of_eq (cT hw63).symm, trivial⟩ (VOk.g (VOk.loadFp (d := (S (rd y3_2_47 x7_39))) rfl Try.underlying9 rfl rfl rfl)))) ?_
              refine TxtE.consI rfl ⟨.same _, .same _, trivial⟩ rfl rfl (.one rfl) (fun hw63 => (VOk.g (VOk.to (VOk.fieldB rfl Try.underlying34 rfl sz27 rfl rfl) rfl))) ?_
              refine TxtE.consI rfl ⟨.same _, .same _, trivial⟩ rfl rfl (.one rfl) (fun hw63 => (GOk.fr (fr' := [(66, (.bref 2 2))]) ⟨DLe.of_eq (cT hw63).symm, trivial⟩ (VOk.g (VOk.loadB (d := (L 1 eS y2_2_42)) rfl Try.underlying27 rfl rfl rfl rfl)))) ?_
              refine TxtE.consI rfl ⟨.same _, .same _, trivial⟩ rfl rfl (.one rfl) (fun hw63 => (VOk.g (VOk.mv (d := (.v (.int .i64 x5_13))) rfl rfl))) ?_
              refine TxtE.consI rfl ⟨.same _, .same _, .same _, trivial⟩ rfl rfl (.one rfl) (fun hw63 => (GOk.fr (fr' := [(67, (L 1 eS y2_2_42)), (68, (.v (.int .i64 x5_13)))]) ⟨DLe.of_eq (cT hw63).symm, DLe.of_eq (cT hw63).symm, trivial⟩ (VOk.g (VOk.indexL (sz := 1) (e := eS) (xs := y2_2_42) (i := x5_13) rfl Try.underlying27 sz9 rfl rfl (c65 hw63))))) ?_
              refine TxtE.consI rfl ⟨.same _, .same _, trivial⟩ rfl rfl (.one rfl) (fun hw63 => (GOk.fr (fr' := [(69, (.fp (eS (rd y2_2_42 x5_13)) 0))]) ⟨DLe.of_eq (cT hw63).symm, trivial⟩ (VOk.g (VOk.loadFp (d := (S (rd y2_2_42 x5_13))) rfl Try.underlying9 rfl rfl rfl)))) ?_
              refine TxtE.consI rfl ⟨.same _, .same _, .same _, trivial⟩ rfl rfl (.one rfl) (fun hw63 => (GOk.fr (fr' := [(65, (S (rd y3_2_47 x7_39))), (70, (S (rd y2_2_42 x5_13)))]) ⟨DLe.of_eq (cT hw63).symm, DLe.of_eq (cT hw63).symm, trivial⟩ (VOk.g (VOk.strOp (op := .eql) (a := (rd y3_2_47 x7_39)) (b := (rd y2_2_42 x5_13)) rfl rfl rfl rfl)))) ?_
              refine TxtE.cons rfl ⟨.same _, .same _, trivial⟩ rfl (VOk.g (VOk.to (VOk.pickI (b := x6_38) (p := true) (q := ((rd y3_2_47 x7_39) == (rd y2_2_42 x5_13))) rfl rfl (fun hp66 => rfl) (fun hp66 => (cT (f_beq hp66)))) (pickOr x6_38 ((rd y3_2_47 x7_39) == (rd y2_2_42 x5_13))))) ?_
              refine TxtE.cons rfl ⟨.same _, trivial⟩ rfl (VOk.g (VOk.asg (d := (.v (.bool (x6_38 || ((rd y3_2_47 x7_39) == (rd y2_2_42 x5_13)))))) rfl rfl)) ?_
              exact .done (.rf rfl rfl)
            refine Ok.region (σ' := ⟨[(2, (.bref 2 0)), (3, (.bref 3 0)), (5, (.v (.int .i64 x5_13))), (6, (.v (.bool (x6_38 || ((rd y3_2_47 x7_39) == (rd y2_2_42 x5_13)))))), (7, (.v (.int .i64 (IntKind.i64.wrap (x7_39 + 1)))))], [(2, (.box .ex [(.v (.int .i64 y2_0_40)), (.v (.bool y2_1_41)), (L 1 eS y2_2_42), (.v (.bool y2_3_43)), (.v (.bool y2_4_44))])), (3, (.box .ex [(.v (.int .i64 y3_0_45)), (.v (.bool y3_1_46)), (L 1 eS y3_2_47), (.v (.bool y3_3_48)), (.v (.bool y3_4_49))]))]⟩) ?_ ?_
            · refine .cv (VOk.mv (d := (.v (.int .i64 x7_39))) rfl rfl) rfl rfl ?_
              refine .cv (VOk.arith (op := .add) (k := .i64) (a := x7_39) (b := 1) rfl rfl rfl rfl) rfl rfl ?_
              refine .cv (VOk.asg (d := (.v (.int .i64 (IntKind.i64.wrap (x7_39 + 1))))) rfl rfl) rfl rfl ?_
              exact .done (.rf rfl rfl)
            exact ⟨m62, Nat.lt_succ_self m62, y2_0_40, y2_1_41, y2_2_42, y2_3_43, y2_4_44, y3_0_45, y3_1_46, y3_2_47, y3_3_48, y3_4_49, (x6_38 || ((rd y3_2_47 x7_39) == (rd y2_2_42 x5_13))), (IntKind.i64.wrap (x7_39 + 1)), rfl, H⟩
          · replace H := ifF H hb68
            refine Ok.exit ?_
            refine Ok.seq ?_
            refine Ok.region (σ' := ⟨[(2, (.bref 2 0)), (3, (.bref 3 0)), (5, (.v (.int .i64 x5_13))), (74, (.v (.bool (!x6_38))))], [(2, (.box .ex [(.v (.int .i64 y2_0_40)), (.v (.bool y2_1_41)), (L 1 eS y2_2_42), (.v (.bool y2_3_43)), (.v (.bool y2_4_44))])), (3, (.box .ex [(.v (.int .i64 y3_0_45)), (.v (.bool y3_1_46)), (L 1 eS y3_2_47), (.v (.bool y3_3_48)), (.v (.bool y3_4_49))]))]⟩) ?_ ?_
            · refine .cv (VOk.mv (d := (.v (.bool x6_38))) rfl rfl) rfl rfl ?_
              refine .cv (VOk.not (b := x6_38) rfl rfl) rfl rfl ?_
              exact .done (.rf rfl rfl)
            refine Ok.test (b := (!x6_38)) rfl (fun hb67 => ?_) (fun hb67 => ?_)
            · replace H := ifT H hb67
              refine Ok.seq ?_
              refine Ok.region (σ' := ⟨[(4, (.v (.bool false)))], []⟩) ?_ ?_
              · refine .cv (VOk.asg (d := (.v (.bool false))) rfl rfl) rfl rfl ?_
                exact .done (.rf rfl rfl)
              refine Ok.ret ?_
              obtain rfl := Option.some.inj H
              exact ⟨.inl rfl, ⟨_, (.cons (.tmp rfl) .nil), rfl⟩, trivial⟩
            · replace H := ifF H hb67
              refine Ok.skip ?_
              refine Ok.region (σ' := ⟨[(2, (.bref 2 0)), (3, (.bref 3 0)), (5, (.v (.int .i64 (IntKind.i64.wrap (x5_13 + 1)))))], [(2, (.box .ex [(.v (.int .i64 y2_0_40)), (.v (.bool y2_1_41)), (L 1 eS y2_2_42), (.v (.bool y2_3_43)), (.v (.bool y2_4_44))])), (3, (.box .ex [(.v (.int .i64 y3_0_45)), (.v (.bool y3_1_46)), (L 1 eS y3_2_47), (.v (.bool y3_3_48)), (.v (.bool y3_4_49))]))]⟩) ?_ ?_
              · refine .cv (VOk.mv (d := (.v (.int .i64 x5_13))) rfl rfl) rfl rfl ?_
                refine .cv (VOk.arith (op := .add) (k := .i64) (a := x5_13) (b := 1) rfl rfl rfl rfl) rfl rfl ?_
                refine .cv (VOk.asg (d := (.v (.int .i64 (IntKind.i64.wrap (x5_13 + 1))))) rfl rfl) rfl rfl ?_
                exact .done (.rf rfl rfl)
              exact ⟨m35, Nat.lt_succ_self m35, y2_0_40, y2_1_41, y2_2_42, y2_3_43, y2_4_44, y3_0_45, y3_1_46, y3_2_47, y3_3_48, y3_4_49, (IntKind.i64.wrap (x5_13 + 1)), rfl, H⟩
      · replace H := ifF H hb69
        refine Ok.exit ?_
        refine Ok.seq ?_
        refine Ok.region (σ' := ⟨[(4, (.v (.bool true)))], []⟩) ?_ ?_
        · refine .cv (VOk.asg (d := (.v (.bool true))) rfl rfl) rfl rfl ?_
          exact .done (.rf rfl rfl)
        refine Ok.ret ?_
        obtain rfl := Option.some.inj H
        exact ⟨.inl rfl, ⟨_, (.cons (.tmp rfl) .nil), rfl⟩, trivial⟩

/-! watchbill/watchbilllaw22.DecideMore: function 4 -/
def watchbilllaw22_DecideMore.l0 (k : Nat) (a0 : List T_api_Rule) (a2 : Str) (a3 : Int) : Nat → Int → Bool → List Str → Bool → Bool → Str → Bool → Bool → Bool → List Str → List Str → List Str → Int → Int → Int → Bool → List Str → Int → Bool → List Str → Bool → Bool → Bool → Int → Option Bool
  | 0, _, _, _, _, _, _, _, _, _, _, _, _, _, _, _, _, _, _, _, _, _, _, _, _ => none
  | m65 + 1, y10_0_36, y10_1_37, y10_2_38, y10_3_39, y10_4_40, y5_0_19, y5_1_20, y5_10_29, y5_11_30, y5_2_21, y5_3_22, y5_4_23, y5_5_24, y5_6_25, y5_7_26, y5_8_27, y5_9_28, y9_0_31, y9_1_32, y9_2_33, y9_3_34, y9_4_35, x11_17, x12_18 => (if (decide (x12_18 < (a0.length : Int))) = true then (if ((x11_17 == false) = true → (0 : Int) ≤ x12_18 ∧ x12_18 < (a0.length : Int)) then (((if (x11_17 == false) = true then decide_Matches k (rd a0 x12_18) a2 a3 else some default)).bind fun (t68 : Bool) => watchbilllaw22_DecideMore.l0 k a0 a2 a3 m65 y10_0_36 y10_1_37 y10_2_38 y10_3_39 y10_4_40 y5_0_19 y5_1_20 y5_10_29 y5_11_30 y5_2_21 y5_3_22 y5_4_23 y5_5_24 y5_6_25 y5_7_26 y5_8_27 y5_9_28 y9_0_31 y9_1_32 y9_2_33 y9_3_34 y9_4_35 (x11_17 || t68) (IntKind.i64.wrap (x12_18 + 1))) else none) else (((if ((!x11_17) == true) = true then watchbillref22_Same k (T_api_Grant.mk y9_0_31 y9_1_32 y9_2_33 y9_3_34 y9_4_35) (T_api_Grant.mk 0 false ([] : List Str) false false) else some default)).bind fun (t72 : Bool) => (if ((!x11_17) && (!t72)) = true then some false else ((decide_Matches k (T_api_Rule.mk y5_0_19 y5_1_20 y5_2_21 y5_3_22 y5_4_23 y5_5_24 y5_6_25 y5_7_26 y5_8_27 y5_9_28 y5_10_29 y5_11_30) a2 a3).bind fun (t75 : Bool) => (((if ((!t75) == true) = true then watchbillref22_Same k (T_api_Grant.mk y9_0_31 y9_1_32 y9_2_33 y9_3_34 y9_4_35) (T_api_Grant.mk y10_0_36 y10_1_37 y10_2_38 y10_3_39 y10_4_40) else some default)).bind fun (t78 : Bool) => (if ((!t75) && (!t78)) = true then some false else ((watchbilllaw22_below k (T_api_Grant.mk y9_0_31 y9_1_32 y9_2_33 y9_3_34 y9_4_35) (T_api_Grant.mk y10_0_36 y10_1_37 y10_2_38 y10_3_39 y10_4_40)).bind fun (t81 : Bool) => some ((t81 && (decide (y9_0_31 ≥ 0))) && (decide (y9_0_31 ≤ 3))))))))))
def watchbilllaw22_DecideMore (k : Nat) (a0 : List T_api_Rule) (a1 : T_api_Rule) (a2 : Str) (a3 : Int) : Option Bool := ((watchbilllaw22_awake k).bind fun (t1 : Bool) => (if (!t1) = true then some false else ((watchbilllaw18_Few k a0).bind fun (t3 : Bool) => (((if ((!t3) == false) = true then watchbilllaw18_Few k ([a1] : List T_api_Rule) else some default)).bind fun (t6 : Bool) => (if (((!t3) || (!t6)) || (decide ((a2.length : Int) > 2000))) = true then some true else ((decide_Decide k a0 a2 a3).bind fun (t11 : T_api_Grant) => (if (([] : List T_api_Rule).length + a0.length) * 160 ≤ 140737488355328 then (if ((([] : List T_api_Rule) ++ a0).length + ([a1] : List T_api_Rule).length) * 160 ≤ 140737488355328 then ((decide_Decide k ((([] : List T_api_Rule) ++ a0) ++ ([a1] : List T_api_Rule)) a2 a3).bind fun (t15 : T_api_Grant) => watchbilllaw22_DecideMore.l0 k a0 a2 a3 k t15.Handling t15.All t15.Class t15.Notes t15.Contact a1.ID a1.Any a1.Notes a1.Contact a1.Ones a1.Domains a1.Except a1.From a1.Until a1.Handling a1.All a1.Class t11.Handling t11.All t11.Class t11.Notes t11.Contact false 0) else none) else none)))))))
theorem watchbilllaw22_DecideMore.ok {k : Nat} {a0 : List T_api_Rule} {a1 : T_api_Rule} {a2 : Str} {a3 : Int} {r : Bool} (H : watchbilllaw22_DecideMore k a0 a1 a2 a3 = some r) : Vx.Fn Try.prog 4 [(L 12 e_api_Rule a0), (.agg (e_api_Rule a1)), (S a2), (.v (.int .u64 a3))] [] (.v (.bool r)) [] := by
  unfold watchbilllaw22_DecideMore at H
  refine Vx.Fn.of_okR Try.func4 rfl (Nat.le_of_ble_eq_true rfl) ?_
  refine Ok.seq ?_
  refine Ok.region (σ' := ⟨[(0, (L 12 e_api_Rule a0)), (2, (S a2)), (3, (.v (.int .u64 a3))), (5, (.bref 5 0))], [(5, (.box .ex (c_api_Rule a1)))]⟩) ?_ ?_
  · refine OpsOk.cons rfl (OpOk.box 5 (cells := [(S a1.ID), (.v (.bool a1.Any)), (L 1 eS a1.Ones), (L 1 eS a1.Domains), (L 1 eS a1.Except), (.v (.int .u64 a1.From)), (.v (.int .u64 a1.Until)), (.v (.int .i64 a1.Handling)), (.v (.bool a1.All)), (L 1 eS a1.Class), (.v (.bool a1.Notes)), (.v (.bool a1.Contact))]) rfl rfl rfl rfl) ?_
    refine .cv (VOk.asg (d := (.v (.bool false))) rfl rfl) rfl rfl ?_
    exact .done (.rf rfl rfl)
  refine Ok.seq ?_
  refine Ok.seq ?_
  obtain ⟨t1, h2, H⟩ := bindE H
  refine Ok.region (σ' := ⟨[(0, (L 12 e_api_Rule a0)), (2, (S a2)), (3, (.v (.int .u64 a3))), (5, (.bref 5 0)), (14, (.v (.bool (!t1))))], [(5, (.box .ex (c_api_Rule a1)))]⟩) ?_ ?_
  · refine .cg (GOk.call rfl rfl cl7 rfl (watchbilllaw22_awake.ok h2) rfl) rfl rfl ?_
    refine .cv (VOk.not (b := t1) rfl rfl) rfl rfl ?_
    exact .done (.rf rfl rfl)
  refine Ok.test (b := (!t1)) rfl (fun hb91 => ?_) (fun hb91 => ?_)
  · replace H := ifT H hb91
    refine Ok.seq ?_
    refine Ok.region (σ' := ⟨[(8, (.v (.bool false)))], []⟩) ?_ ?_
    · refine .cv (VOk.asg (d := (.v (.bool false))) rfl rfl) rfl rfl ?_
      exact .done (.rf rfl rfl)
    refine Ok.ret ?_
    obtain rfl := Option.some.inj H
    exact ⟨.inl rfl, ⟨_, (.cons (.tmp rfl) .nil), rfl⟩, trivial⟩
  · replace H := ifF H hb91
    refine Ok.skip ?_
    refine Ok.seq ?_
    refine Ok.seq ?_
    obtain ⟨t3, h4, H⟩ := bindE H
    obtain ⟨t6, h7, H⟩ := bindE H
    refine Ok.region (σ' := ⟨[(0, (L 12 e_api_Rule a0)), (2, (S a2)), (3, (.v (.int .u64 a3))), (5, (.bref 5 0)), (28, (.v (.bool (((!t3) || (!t6)) || (decide ((a2.length : Int) > 2000))))))], [(5, (.box .ex (c_api_Rule a1)))]⟩) ?_ ?_
    · refine .cv (VOk.mv (d := (L 12 e_api_Rule a0)) rfl rfl) rfl rfl ?_
      refine .cg (GOk.call rfl rfl cl8 rfl (watchbilllaw18_Few.ok h4) rfl) rfl rfl ?_
      refine .cv (VOk.not (b := t3) rfl rfl) rfl rfl ?_
      refine .cv (VOk.mv (d := (.v (.bool (!t3)))) rfl rfl) rfl rfl ?_
      refine OpsOk.consI rfl rfl rfl (.one rfl) rfl (fun hw5 => (VOk.g (VOk.to (d' := (.agg (e_api_Rule a1))) (.loadBAgg rfl Try.underlying29 rfl sz29 rfl rfl rfl) rfl))) ?_
      refine OpsOk.consI rfl rfl rfl (.one rfl) rfl (fun hw5 => (GOk.fr (fr' := [(19, (.agg (e_api_Rule a1)))]) ⟨DLe.of_eq (cT hw5).symm, trivial⟩ (GOk.to (d' := (L 12 e_api_Rule ([a1] : List T_api_Rule))) (GOk.lit rfl Try.underlying22 sz29 zs29 rfl rfl rfl rfl) rfl))) ?_
      refine OpsOk.consI rfl rfl rfl (.one rfl) rfl (fun hw5 => (GOk.fr (fr' := [(20, (L 12 e_api_Rule ([a1] : List T_api_Rule)))]) ⟨DLe.of_eq (cT hw5).symm, trivial⟩ (GOk.call rfl rfl cl8 rfl (watchbilllaw18_Few.ok (ifT h7 hw5)) rfl))) ?_
      refine OpsOk.consI rfl rfl rfl (.one rfl) rfl (fun hw5 => (GOk.fr (fr' := [(21, (.v (.bool t6)))]) ⟨DLe.of_eq (cT hw5).symm, trivial⟩ (VOk.g (VOk.not (b := t6) rfl rfl)))) ?_
      refine .cv (VOk.to (VOk.pickI (b := (!t3)) (p := true) (q := (!t6)) rfl rfl (fun hp8 => rfl) (fun hp8 => (cT (f_beq hp8)))) (pickOr (!t3) (!t6))) rfl rfl ?_
      refine .cv (VOk.mv (d := (.v (.bool ((!t3) || (!t6))))) rfl rfl) rfl rfl ?_
      refine OpsOk.consI rfl rfl rfl (.one rfl) rfl (fun hw9 => (VOk.g (VOk.mv (d := (S a2)) rfl rfl))) ?_
      refine OpsOk.consI rfl rfl rfl (.one rfl) rfl (fun hw9 => (GOk.fr (fr' := [(25, (S a2))]) ⟨DLe.of_eq (cT hw9).symm, trivial⟩ (VOk.g (VOk.lenStr (s := a2) rfl Try.underlying9 rfl)))) ?_
      refine OpsOk.consI rfl rfl rfl (.one rfl) rfl (fun hw9 => (GOk.fr (fr' := [(26, (.v (.int .i64 (a2.length : Int))))]) ⟨DLe.of_eq (cT hw9).symm, trivial⟩ (VOk.g (VOk.arith (op := .gtr) (k := .i64) (a := (a2.length : Int)) (b := 2000) rfl rfl rfl rfl)))) ?_
      refine .cv (VOk.to (VOk.pickI (b := ((!t3) || (!t6))) (p := true) (q := (decide ((a2.length : Int) > 2000))) rfl rfl (fun hp10 => rfl) (fun hp10 => (cT (f_beq hp10)))) (pickOr ((!t3) || (!t6)) (decide ((a2.length : Int) > 2000)))) rfl rfl ?_
      exact .done (.rf rfl rfl)
    refine Ok.test (b := (((!t3) || (!t6)) || (decide ((a2.length : Int) > 2000)))) rfl (fun hb90 => ?_) (fun hb90 => ?_)
    · replace H := ifT H hb90
      refine Ok.seq ?_
      refine Ok.region (σ' := ⟨[(8, (.v (.bool true)))], []⟩) ?_ ?_
      · refine .cv (VOk.asg (d := (.v (.bool true))) rfl rfl) rfl rfl ?_
        exact .done (.rf rfl rfl)
      refine Ok.ret ?_
      obtain rfl := Option.some.inj H
      exact ⟨.inl rfl, ⟨_, (.cons (.tmp rfl) .nil), rfl⟩, trivial⟩
    · replace H := ifF H hb90
      refine Ok.skip ?_
      refine Ok.seq ?_
      obtain ⟨t11, h12, H⟩ := bindE H
      refine Ok.region (σ' := ⟨[(0, (L 12 e_api_Rule a0)), (2, (S a2)), (3, (.v (.int .u64 a3))), (5, (.bref 5 0)), (9, (.bref 9 0))], [(5, (.box .ex (c_api_Rule a1))), (9, (.box .ex (c_api_Grant t11)))]⟩) ?_ ?_
      · refine .cv (VOk.mv (d := (L 12 e_api_Rule a0)) rfl rfl) rfl rfl ?_
        refine .cv (VOk.mv (d := (S a2)) rfl rfl) rfl rfl ?_
        refine .cv (VOk.mv (d := (.v (.int .u64 a3))) rfl rfl) rfl rfl ?_
        refine .cg (GOk.call rfl rfl cl14 rfl (decide_Decide.ok h12) rfl) rfl rfl ?_
        refine OpsOk.cons rfl (OpOk.alloc 9 [none, none, some 1, none, none] rfl zo34 rfl rfl) ?_
        refine OpsOk.cons rfl (OpOk.to (σ2 := St.put ⟨_, (9, (.box .ex (c_api_Grant t11))) :: _⟩ _ .junk) (.storeB rfl sz34 rfl rfl rfl rfl rfl rfl) rfl) ?_
        exact .done (.rf rfl rfl)
      refine Ok.seq ?_
      obtain ⟨c13, H⟩ := assertE H
      obtain ⟨c14, H⟩ := assertE H
      obtain ⟨t15, h16, H⟩ := bindE H
      refine Ok.le (σ' := ⟨[(0, (L 12 e_api_Rule a0)), (2, (S a2)), (3, (.v (.int .u64 a3))), (5, (.bref 5 0)), (9, (.bref 9 0))], [(5, (.box .ex (c_api_Rule a1))), (9, (.box .ex (c_api_Grant t11)))]⟩) (.rf rfl rfl) ?_
      refine Ok.drawE2 (σ' := ⟨[(0, (L 12 e_api_Rule a0)), (2, (S a2)), (3, (.v (.int .u64 a3))), (5, (.bref 5 0)), (9, (.bref 9 0)), (10, (.bref 10 0))], [(5, (.box .ex (c_api_Rule a1))), (9, (.box .ex (c_api_Grant t11))), (10, (.box .ex (c_api_Grant t15)))]⟩) [⟨true, [], [], (.sref 33), [(33, (.rows true 29 12 (([] : List T_api_Rule).map e_api_Rule)))], true, []⟩, ⟨true, [(0, (L 12 e_api_Rule a0))], [], (L 12 e_api_Rule a0), [], false, []⟩, ⟨true, [(33, (.sref 33)), (34, (L 12 e_api_Rule a0))], [(33, (.rows true 29 12 (([] : List T_api_Rule).map e_api_Rule)))], (.sref 35), [(35, (.rows true 29 12 ((([] : List T_api_Rule) ++ a0).map e_api_Rule))), (33, .none)], true, []⟩, ⟨true, [(5, (.bref 5 0))], [(5, (.box .ex (c_api_Rule a1)))], (.agg (e_api_Rule a1)), [], false, []⟩, ⟨true, [(36, (.agg (e_api_Rule a1)))], [], (L 12 e_api_Rule ([a1] : List T_api_Rule)), [], false, []⟩, ⟨true, [(35, (.sref 35)), (37, (L 12 e_api_Rule ([a1] : List T_api_Rule)))], [(35, (.rows true 29 12 ((([] : List T_api_Rule) ++ a0).map e_api_Rule)))], (L 12 e_api_Rule ((([] : List T_api_Rule) ++ a0) ++ ([a1] : List T_api_Rule))), [(35, .none)], false, []⟩, ⟨true, [(2, (S a2))], [], (S a2), [], false, []⟩, ⟨true, [(3, (.v (.int .u64 a3)))], [], (.v (.int .u64 a3)), [], false, []⟩, ⟨true, [(38, (L 12 e_api_Rule ((([] : List T_api_Rule) ++ a0) ++ ([a1] : List T_api_Rule)))), (39, (S a2)), (40, (.v (.int .u64 a3)))], [], (.agg (e_api_Grant t15)), [], false, []⟩, ⟨true, [], [], (.bref 10 0), [(10, (.box .ex [(.v (.int .i64 0)), (.v (.bool false)), (L 1 eS ([] : List Str)), (.v (.bool false)), (.v (.bool false))]))], true, []⟩, ⟨true, [(10, (.bref 10 0)), (41, (.agg (e_api_Grant t15)))], [(10, (.box .ex [(.v (.int .i64 0)), (.v (.bool false)), (L 1 eS ([] : List Str)), (.v (.bool false)), (.v (.bool false))]))], .junk, [(10, (.box .ex (c_api_Grant t15)))], false, []⟩] [[], [], [0, 1], [], [3], [2, 4], [], [], [5, 6, 7], [], [8, 9]] mixed (by kernel_rfl) ?_ ?_
      · refine TxtE2.cons trivial trivial (It2.litT0 33 rfl rfl Try.underlying22 sz29 zs29 rfl) ?_
        refine TxtE2.cons ⟨.same _, trivial⟩ trivial (It2.val rfl rfl (fun T hT => (VOk.g (VOk.mv (d := (L 12 e_api_Rule a0)) rfl rfl)))) ?_
        refine TxtE2.cons ⟨.same _, .same _, trivial⟩ ⟨rfl, trivial⟩ (It2.appendL 35 (e := e_api_Rule) (xs := ([] : List T_api_Rule)) (ys := a0) rfl rfl Try.underlying22 elt29 rfl rfl rfl rfl c13 rfl rfl) ?_
        refine TxtE2.cons ⟨.same _, trivial⟩ ⟨rfl, trivial⟩ (It2.val rfl rfl (fun T hT => (VOk.g (VOk.to (d' := (.agg (e_api_Rule a1))) (.loadBAgg rfl Try.underlying29 rfl sz29 rfl hT.1 rfl) rfl)))) ?_
        refine TxtE2.cons ⟨.same _, trivial⟩ trivial (It2.val rfl rfl (fun T hT => (GOk.to (d' := (L 12 e_api_Rule ([a1] : List T_api_Rule))) (GOk.lit rfl Try.underlying22 sz29 zs29 rfl rfl rfl rfl) rfl))) ?_
        refine TxtE2.cons ⟨.same _, .same _, trivial⟩ ⟨rfl, trivial⟩ (It2.appendF (e := e_api_Rule) (xs := (([] : List T_api_Rule) ++ a0)) (ys := ([a1] : List T_api_Rule)) rfl rfl Try.underlying22 elt29 rfl rfl rfl rfl c14 rfl) ?_
        refine TxtE2.cons ⟨.same _, trivial⟩ trivial (It2.val rfl rfl (fun T hT => (VOk.g (VOk.mv (d := (S a2)) rfl rfl)))) ?_
        refine TxtE2.cons ⟨.same _, trivial⟩ trivial (It2.val rfl rfl (fun T hT => (VOk.g (VOk.mv (d := (.v (.int .u64 a3))) rfl rfl)))) ?_
        refine TxtE2.cons ⟨.same _, .same _, .same _, trivial⟩ trivial (It2.val rfl rfl (fun T hT => (GOk.call rfl rfl cl14 rfl (decide_Decide.ok h16) rfl))) ?_
        refine TxtE2.cons trivial trivial (It2.alloc 10 [none, none, some 1, none, none] rfl rfl zo34 rfl rfl) ?_
        refine TxtE2.cons ⟨.same _, .same _, trivial⟩ ⟨rfl, trivial⟩ (It2.store rfl rfl sz34 rfl rfl rfl rfl rfl rfl rfl rfl) ?_
        exact .done (.rf rfl rfl)
      refine Ok.seq ?_
      refine Ok.region (σ' := ⟨[(0, (L 12 e_api_Rule a0)), (2, (S a2)), (3, (.v (.int .u64 a3))), (5, (.bref 5 0)), (9, (.bref 9 0)), (10, (.bref 10 0)), (11, (.v (.bool false)))], [(5, (.box .ex (c_api_Rule a1))), (9, (.box .ex (c_api_Grant t11))), (10, (.box .ex (c_api_Grant t15)))]⟩) ?_ ?_
      · refine .cv (VOk.asg (d := (.v (.bool false))) rfl rfl) rfl rfl ?_
        exact .done (.rf rfl rfl)
      refine Ok.seq ?_
      refine Ok.seq ?_
      refine Ok.region (σ' := ⟨[(0, (L 12 e_api_Rule a0)), (2, (S a2)), (3, (.v (.int .u64 a3))), (5, (.bref 5 0)), (9, (.bref 9 0)), (10, (.bref 10 0)), (11, (.v (.bool false))), (12, (.v (.int .i64 0)))], [(5, (.box .ex (c_api_Rule a1))), (9, (.box .ex (c_api_Grant t11))), (10, (.box .ex (c_api_Grant t15)))]⟩) ?_ ?_
      · refine .cv (VOk.asg (d := (.v (.int .i64 0))) rfl rfl) rfl rfl ?_
        exact .done (.rf rfl rfl)
      refine Ok.block ?_
      refine Ok.le (σ' := ⟨[(0, (L 12 e_api_Rule a0)), (2, (S a2)), (3, (.v (.int .u64 a3))), (5, (.bref 5 0)), (9, (.bref 9 0)), (10, (.bref 10 0)), (11, (.v (.bool false))), (12, (.v (.int .i64 0)))], [(5, (.box .ex (c_api_Rule a1))), (9, (.box .ex (c_api_Grant t11))), (10, (.box .ex (c_api_Grant t15)))]⟩) (.rf rfl rfl) ?_
      refine Ok.loop (fun m65 σ => ∃ (y10_0_36 : Int) (y10_1_37 : Bool) (y10_2_38 : List Str) (y10_3_39 : Bool) (y10_4_40 : Bool) (y5_0_19 : Str) (y5_1_20 : Bool) (y5_10_29 : Bool) (y5_11_30 : Bool) (y5_2_21 : List Str) (y5_3_22 : List Str) (y5_4_23 : List Str) (y5_5_24 : Int) (y5_6_25 : Int) (y5_7_26 : Int) (y5_8_27 : Bool) (y5_9_28 : List Str) (y9_0_31 : Int) (y9_1_32 : Bool) (y9_2_33 : List Str) (y9_3_34 : Bool) (y9_4_35 : Bool) (x11_17 : Bool) (x12_18 : Int), σ = ⟨[(0, (L 12 e_api_Rule a0)), (2, (S a2)), (3, (.v (.int .u64 a3))), (5, (.bref 5 0)), (9, (.bref 9 0)), (10, (.bref 10 0)), (11, (.v (.bool x11_17))), (12, (.v (.int .i64 x12_18)))], [(5, (.box .ex [(S y5_0_19), (.v (.bool y5_1_20)), (L 1 eS y5_2_21), (L 1 eS y5_3_22), (L 1 eS y5_4_23), (.v (.int .u64 y5_5_24)), (.v (.int .u64 y5_6_25)), (.v (.int .i64 y5_7_26)), (.v (.bool y5_8_27)), (L 1 eS y5_9_28), (.v (.bool y5_10_29)), (.v (.bool y5_11_30))])), (9, (.box .ex [(.v (.int .i64 y9_0_31)), (.v (.bool y9_1_32)), (L 1 eS y9_2_33), (.v (.bool y9_3_34)), (.v (.bool y9_4_35))])), (10, (.box .ex [(.v (.int .i64 y10_0_36)), (.v (.bool y10_1_37)), (L 1 eS y10_2_38), (.v (.bool y10_3_39)), (.v (.bool y10_4_40))]))]⟩ ∧ watchbilllaw22_DecideMore.l0 k a0 a2 a3 m65 y10_0_36 y10_1_37 y10_2_38 y10_3_39 y10_4_40 y5_0_19 y5_1_20 y5_10_29 y5_11_30 y5_2_21 y5_3_22 y5_4_23 y5_5_24 y5_6_25 y5_7_26 y5_8_27 y5_9_28 y9_0_31 y9_1_32 y9_2_33 y9_3_34 y9_4_35 x11_17 x12_18 = some r) k ⟨t15.Handling, t15.All, t15.Class, t15.Notes, t15.Contact, a1.ID, a1.Any, a1.Notes, a1.Contact, a1.Ones, a1.Domains, a1.Except, a1.From, a1.Until, a1.Handling, a1.All, a1.Class, t11.Handling, t11.All, t11.Class, t11.Notes, t11.Contact, false, 0, rfl, H⟩ ?_
      rintro m65 σ ⟨y10_0_36, y10_1_37, y10_2_38, y10_3_39, y10_4_40, y5_0_19, y5_1_20, y5_10_29, y5_11_30, y5_2_21, y5_3_22, y5_4_23, y5_5_24, y5_6_25, y5_7_26, y5_8_27, y5_9_28, y9_0_31, y9_1_32, y9_2_33, y9_3_34, y9_4_35, x11_17, x12_18, rfl, H⟩
      cases m65 with
      | zero => exact absurd H (by simp [watchbilllaw22_DecideMore.l0])
      | succ m65 =>
        unfold watchbilllaw22_DecideMore.l0 at H
        refine Ok.seq ?_
        refine Ok.seq ?_
        refine Ok.region (σ' := ⟨[(0, (L 12 e_api_Rule a0)), (2, (S a2)), (3, (.v (.int .u64 a3))), (5, (.bref 5 0)), (9, (.bref 9 0)), (10, (.bref 10 0)), (11, (.v (.bool x11_17))), (12, (.v (.int .i64 x12_18))), (45, (.v (.bool (decide (x12_18 < (a0.length : Int))))))], [(5, (.box .ex [(S y5_0_19), (.v (.bool y5_1_20)), (L 1 eS y5_2_21), (L 1 eS y5_3_22), (L 1 eS y5_4_23), (.v (.int .u64 y5_5_24)), (.v (.int .u64 y5_6_25)), (.v (.int .i64 y5_7_26)), (.v (.bool y5_8_27)), (L 1 eS y5_9_28), (.v (.bool y5_10_29)), (.v (.bool y5_11_30))])), (9, (.box .ex [(.v (.int .i64 y9_0_31)), (.v (.bool y9_1_32)), (L 1 eS y9_2_33), (.v (.bool y9_3_34)), (.v (.bool y9_4_35))])), (10, (.box .ex [(.v (.int .i64 y10_0_36)), (.v (.bool y10_1_37)), (L 1 eS y10_2_38), (.v (.bool y10_3_39)), (.v (.bool y10_4_40))]))]⟩) ?_ ?_
        · refine .cv (VOk.mv (d := (.v (.int .i64 x12_18))) rfl rfl) rfl rfl ?_
          refine .cv (VOk.mv (d := (L 12 e_api_Rule a0)) rfl rfl) rfl rfl ?_
          refine .cv (VOk.lenL (e := e_api_Rule) (xs := a0) rfl Try.underlying22 rfl) rfl rfl ?_
          refine .cv (VOk.arith (op := .lss) (k := .i64) (a := x12_18) (b := (a0.length : Int)) rfl rfl rfl rfl) rfl rfl ?_
          exact .done (.rf rfl rfl)
        refine Ok.test (b := (decide (x12_18 < (a0.length : Int)))) rfl (fun hb89 => ?_) (fun hb89 => ?_)
        · replace H := ifT H hb89
          refine Ok.skip ?_
          refine Ok.seq ?_
          refine Ok.block ?_
          obtain ⟨c67, H⟩ := assertE H
          obtain ⟨t68, h69, H⟩ := bindE H
          refine Ok.region (σ' := ⟨[(0, (L 12 e_api_Rule a0)), (2, (S a2)), (3, (.v (.int .u64 a3))), (5, (.bref 5 0)), (9, (.bref 9 0)), (10, (.bref 10 0)), (11, (.v (.bool (x11_17 || t68)))), (12, (.v (.int .i64 x12_18)))], [(5, (.box .ex [(S y5_0_19), (.v (.bool y5_1_20)), (L 1 eS y5_2_21), (L 1 eS y5_3_22), (L 1 eS y5_4_23), (.v (.int .u64 y5_5_24)), (.v (.int .u64 y5_6_25)), (.v (.int .i64 y5_7_26)), (.v (.bool y5_8_27)), (L 1 eS y5_9_28), (.v (.bool y5_10_29)), (.v (.bool y5_11_30))])), (9, (.box .ex [(.v (.int .i64 y9_0_31)), (.v (.bool y9_1_32)), (L 1 eS y9_2_33), (.v (.bool y9_3_34)), (.v (.bool y9_4_35))])), (10, (.box .ex [(.v (.int .i64 y10_0_36)), (.v (.bool y10_1_37)), (L 1 eS y10_2_38), (.v (.bool y10_3_39)), (.v (.bool y10_4_40))]))]⟩) ?_ ?_
          · refine .cv (VOk.mv (d := (.v (.bool x11_17))) rfl rfl) rfl rfl ?_
            refine .cv (VOk.mv (d := (.v (.bool x11_17))) rfl rfl) rfl rfl ?_
            refine OpsOk.consI rfl rfl rfl (.one rfl) rfl (fun hw66 => (VOk.g (VOk.mv (d := (L 12 e_api_Rule a0)) rfl rfl))) ?_
            refine OpsOk.consI rfl rfl rfl (.one rfl) rfl (fun hw66 => (VOk.g (VOk.mv (d := (.v (.int .i64 x12_18))) rfl rfl))) ?_
            refine OpsOk.consI rfl rfl rfl (.one rfl) rfl (fun hw66 => (GOk.fr (fr' := [(50, (L 12 e_api_Rule a0)), (51, (.v (.int .i64 x12_18)))]) ⟨DLe.of_eq (cT hw66).symm, DLe.of_eq (cT hw66).symm, trivial⟩ (VOk.g (VOk.indexL (sz := 12) (e := e_api_Rule) (xs := a0) (i := x12_18) rfl Try.underlying22 sz29 rfl rfl (c67 hw66))))) ?_
            refine OpsOk.consI rfl rfl rfl (.one rfl) rfl (fun hw66 => (GOk.fr (fr' := [(52, (.fp (e_api_Rule (rd a0 x12_18)) 0))]) ⟨DLe.of_eq (cT hw66).symm, trivial⟩ (VOk.g (VOk.to (d' := (.agg (e_api_Rule (rd a0 x12_18)))) (.loadFpAgg rfl Try.underlying29 rfl sz29 rfl rfl) rfl)))) ?_
            refine OpsOk.consI rfl rfl rfl (.one rfl) rfl (fun hw66 => (VOk.g (VOk.mv (d := (S a2)) rfl rfl))) ?_
            refine OpsOk.consI rfl rfl rfl (.one rfl) rfl (fun hw66 => (VOk.g (VOk.mv (d := (.v (.int .u64 a3))) rfl rfl))) ?_
            refine OpsOk.consI rfl rfl rfl (.one rfl) rfl (fun hw66 => (GOk.fr (fr' := [(53, (.agg (e_api_Rule (rd a0 x12_18)))), (54, (S a2)), (55, (.v (.int .u64 a3)))]) ⟨DLe.of_eq (cT hw66).symm, DLe.of_eq (cT hw66).symm, DLe.of_eq (cT hw66).symm, trivial⟩ (GOk.call rfl rfl cl9 rfl (decide_Matches.ok (ifT h69 hw66)) rfl))) ?_
            refine .cv (VOk.to (VOk.pickI (b := x11_17) (p := true) (q := t68) rfl rfl (fun hp70 => rfl) (fun hp70 => (cT (f_beq hp70)))) (pickOr x11_17 t68)) rfl rfl ?_
            refine .cv (VOk.asg (d := (.v (.bool (x11_17 || t68)))) rfl rfl) rfl rfl ?_
            exact .done (.rf rfl rfl)
          refine Ok.region (σ' := ⟨[(0, (L 12 e_api_Rule a0)), (2, (S a2)), (3, (.v (.int .u64 a3))), (5, (.bref 5 0)), (9, (.bref 9 0)), (10, (.bref 10 0)), (11, (.v (.bool (x11_17 || t68)))), (12, (.v (.int .i64 (IntKind.i64.wrap (x12_18 + 1)))))], [(5, (.box .ex [(S y5_0_19), (.v (.bool y5_1_20)), (L 1 eS y5_2_21), (L 1 eS y5_3_22), (L 1 eS y5_4_23), (.v (.int .u64 y5_5_24)), (.v (.int .u64 y5_6_25)), (.v (.int .i64 y5_7_26)), (.v (.bool y5_8_27)), (L 1 eS y5_9_28), (.v (.bool y5_10_29)), (.v (.bool y5_11_30))])), (9, (.box .ex [(.v (.int .i64 y9_0_31)), (.v (.bool y9_1_32)), (L 1 eS y9_2_33), (.v (.bool y9_3_34)), (.v (.bool y9_4_35))])), (10, (.box .ex [(.v (.int .i64 y10_0_36)), (.v (.bool y10_1_37)), (L 1 eS y10_2_38), (.v (.bool y10_3_39)), (.v (.bool y10_4_40))]))]⟩) ?_ ?_
          · refine .cv (VOk.mv (d := (.v (.int .i64 x12_18))) rfl rfl) rfl rfl ?_
            refine .cv (VOk.arith (op := .add) (k := .i64) (a := x12_18) (b := 1) rfl rfl rfl rfl) rfl rfl ?_
            refine .cv (VOk.asg (d := (.v (.int .i64 (IntKind.i64.wrap (x12_18 + 1))))) rfl rfl) rfl rfl ?_
            exact .done (.rf rfl rfl)
          exact ⟨m65, Nat.lt_succ_self m65, y10_0_36, y10_1_37, y10_2_38, y10_3_39, y10_4_40, y5_0_19, y5_1_20, y5_10_29, y5_11_30, y5_2_21, y5_3_22, y5_4_23, y5_5_24, y5_6_25, y5_7_26, y5_8_27, y5_9_28, y9_0_31, y9_1_32, y9_2_33, y9_3_34, y9_4_35, (x11_17 || t68), (IntKind.i64.wrap (x12_18 + 1)), rfl, H⟩
        · replace H := ifF H hb89
          refine Ok.exit ?_
          refine Ok.seq ?_
          refine Ok.seq ?_
          obtain ⟨t72, h73, H⟩ := bindE H
          refine Ok.region (σ' := ⟨[(2, (S a2)), (3, (.v (.int .u64 a3))), (5, (.bref 5 0)), (9, (.bref 9 0)), (10, (.bref 10 0)), (65, (.v (.bool ((!x11_17) && (!t72)))))], [(5, (.box .ex [(S y5_0_19), (.v (.bool y5_1_20)), (L 1 eS y5_2_21), (L 1 eS y5_3_22), (L 1 eS y5_4_23), (.v (.int .u64 y5_5_24)), (.v (.int .u64 y5_6_25)), (.v (.int .i64 y5_7_26)), (.v (.bool y5_8_27)), (L 1 eS y5_9_28), (.v (.bool y5_10_29)), (.v (.bool y5_11_30))])), (9, (.box .ex [(.v (.int .i64 y9_0_31)), (.v (.bool y9_1_32)), (L 1 eS y9_2_33), (.v (.bool y9_3_34)), (.v (.bool y9_4_35))])), (10, (.box .ex [(.v (.int .i64 y10_0_36)), (.v (.bool y10_1_37)), (L 1 eS y10_2_38), (.v (.bool y10_3_39)), (.v (.bool y10_4_40))]))]⟩) ?_ ?_
          · refine .cv (VOk.mv (d := (.v (.bool x11_17))) rfl rfl) rfl rfl ?_
            refine .cv (VOk.not (b := x11_17) rfl rfl) rfl rfl ?_
            refine .cv (VOk.mv (d := (.v (.bool (!x11_17)))) rfl rfl) rfl rfl ?_
            refine OpsOk.consI rfl rfl rfl (.one rfl) rfl (fun hw71 => (VOk.g (VOk.to (d' := (.agg (e_api_Grant (T_api_Grant.mk y9_0_31 y9_1_32 y9_2_33 y9_3_34 y9_4_35)))) (.loadBAgg rfl Try.underlying34 rfl sz34 rfl rfl rfl) rfl))) ?_
            refine OpsOk.consI rfl rfl rfl (.one rfl) rfl (fun hw71 => (VOk.g (VOk.to (d' := (.agg (e_api_Grant (T_api_Grant.mk 0 false ([] : List Str) false false)))) (.build [none, none, some 1, none, none] [(0, 1), (1, 1), (2, 1), (3, 1), (4, 1)] rfl Try.underlying34 (fa34 Try.underlying34) zo34 rfl rfl) rfl))) ?_
            refine OpsOk.consI rfl rfl rfl (.one rfl) rfl (fun hw71 => (GOk.fr (fr' := [(61, (.agg (e_api_Grant (T_api_Grant.mk y9_0_31 y9_1_32 y9_2_33 y9_3_34 y9_4_35)))), (62, (.agg (e_api_Grant (T_api_Grant.mk 0 false ([] : List Str) false false))))]) ⟨DLe.of_eq (cT hw71).symm, DLe.of_eq (cT hw71).symm, trivial⟩ (GOk.call rfl rfl cl13 rfl (watchbillref22_Same.ok (ifT h73 hw71)) rfl))) ?_
            refine OpsOk.consI rfl rfl rfl (.one rfl) rfl (fun hw71 => (GOk.fr (fr' := [(63, (.v (.bool t72)))]) ⟨DLe.of_eq (cT hw71).symm, trivial⟩ (VOk.g (VOk.not (b := t72) rfl rfl)))) ?_
            refine .cv (VOk.to (VOk.pickI (b := (!x11_17)) (p := (!t72)) (q := false) rfl rfl (fun hp74 => (cT (t_beq hp74))) (fun hp74 => rfl)) (pickAnd (!x11_17) (!t72))) rfl rfl ?_
            exact .done (.rf rfl rfl)
          refine Ok.test (b := ((!x11_17) && (!t72))) rfl (fun hb88 => ?_) (fun hb88 => ?_)
          · replace H := ifT H hb88
            refine Ok.seq ?_
            refine Ok.region (σ' := ⟨[(8, (.v (.bool false)))], []⟩) ?_ ?_
            · refine .cv (VOk.asg (d := (.v (.bool false))) rfl rfl) rfl rfl ?_
              exact .done (.rf rfl rfl)
            refine Ok.ret ?_
            obtain rfl := Option.some.inj H
            exact ⟨.inl rfl, ⟨_, (.cons (.tmp rfl) .nil), rfl⟩, trivial⟩
          · replace H := ifF H hb88
            refine Ok.skip ?_
            refine Ok.seq ?_
            refine Ok.seq ?_
            obtain ⟨t75, h76, H⟩ := bindE H
            obtain ⟨t78, h79, H⟩ := bindE H
            refine Ok.region (σ' := ⟨[(9, (.bref 9 0)), (10, (.bref 10 0)), (76, (.v (.bool ((!t75) && (!t78)))))], [(9, (.box .ex [(.v (.int .i64 y9_0_31)), (.v (.bool y9_1_32)), (L 1 eS y9_2_33), (.v (.bool y9_3_34)), (.v (.bool y9_4_35))])), (10, (.box .ex [(.v (.int .i64 y10_0_36)), (.v (.bool y10_1_37)), (L 1 eS y10_2_38), (.v (.bool y10_3_39)), (.v (.bool y10_4_40))]))]⟩) ?_ ?_
            · refine .cv (VOk.to (d' := (.agg (e_api_Rule (T_api_Rule.mk y5_0_19 y5_1_20 y5_2_21 y5_3_22 y5_4_23 y5_5_24 y5_6_25 y5_7_26 y5_8_27 y5_9_28 y5_10_29 y5_11_30)))) (.loadBAgg rfl Try.underlying29 rfl sz29 rfl rfl rfl) rfl) rfl rfl ?_
              refine .cv (VOk.mv (d := (S a2)) rfl rfl) rfl rfl ?_
              refine .cv (VOk.mv (d := (.v (.int .u64 a3))) rfl rfl) rfl rfl ?_
              refine .cg (GOk.call rfl rfl cl9 rfl (decide_Matches.ok h76) rfl) rfl rfl ?_
              refine .cv (VOk.not (b := t75) rfl rfl) rfl rfl ?_
              refine .cv (VOk.mv (d := (.v (.bool (!t75)))) rfl rfl) rfl rfl ?_
              refine OpsOk.consI rfl rfl rfl (.one rfl) rfl (fun hw77 => (VOk.g (VOk.to (d' := (.agg (e_api_Grant (T_api_Grant.mk y9_0_31 y9_1_32 y9_2_33 y9_3_34 y9_4_35)))) (.loadBAgg rfl Try.underlying34 rfl sz34 rfl rfl rfl) rfl))) ?_
              refine OpsOk.consI rfl rfl rfl (.one rfl) rfl (fun hw77 => (VOk.g (VOk.to (d' := (.agg (e_api_Grant (T_api_Grant.mk y10_0_36 y10_1_37 y10_2_38 y10_3_39 y10_4_40)))) (.loadBAgg rfl Try.underlying34 rfl sz34 rfl rfl rfl) rfl))) ?_
              refine OpsOk.consI rfl rfl rfl (.one rfl) rfl (fun hw77 => (GOk.fr (fr' := [(72, (.agg (e_api_Grant (T_api_Grant.mk y9_0_31 y9_1_32 y9_2_33 y9_3_34 y9_4_35)))), (73, (.agg (e_api_Grant (T_api_Grant.mk y10_0_36 y10_1_37 y10_2_38 y10_3_39 y10_4_40))))]) ⟨DLe.of_eq (cT hw77).symm, DLe.of_eq (cT hw77).symm, trivial⟩ (GOk.call rfl rfl cl13 rfl (watchbillref22_Same.ok (ifT h79 hw77)) rfl))) ?_
              refine OpsOk.consI rfl rfl rfl (.one rfl) rfl (fun hw77 => (GOk.fr (fr' := [(74, (.v (.bool t78)))]) ⟨DLe.of_eq (cT hw77).symm, trivial⟩ (VOk.g (VOk.not (b := t78) rfl rfl)))) ?_
              refine .cv (VOk.to (VOk.pickI (b := (!t75)) (p := (!t78)) (q := false) rfl rfl (fun hp80 => (cT (t_beq hp80))) (fun hp80 => rfl)) (pickAnd (!t75) (!t78))) rfl rfl ?_
              exact .done (.rf rfl rfl)
            refine Ok.test (b := ((!t75) && (!t78))) rfl (fun hb87 => ?_) (fun hb87 => ?_)
            · replace H := ifT H hb87
              refine Ok.seq ?_
              refine Ok.region (σ' := ⟨[(8, (.v (.bool false)))], []⟩) ?_ ?_
              · refine .cv (VOk.asg (d := (.v (.bool false))) rfl rfl) rfl rfl ?_
                exact .done (.rf rfl rfl)
              refine Ok.ret ?_
              obtain rfl := Option.some.inj H
              exact ⟨.inl rfl, ⟨_, (.cons (.tmp rfl) .nil), rfl⟩, trivial⟩
            · replace H := ifF H hb87
              refine Ok.skip ?_
              refine Ok.seq ?_
              obtain ⟨t81, h82, H⟩ := bindE H
              refine Ok.region (σ' := ⟨[(8, (.v (.bool ((t81 && (decide (y9_0_31 ≥ 0))) && (decide (y9_0_31 ≤ 3))))))], []⟩) ?_ ?_
              · refine .cv (VOk.to (d' := (.agg (e_api_Grant (T_api_Grant.mk y9_0_31 y9_1_32 y9_2_33 y9_3_34 y9_4_35)))) (.loadBAgg rfl Try.underlying34 rfl sz34 rfl rfl rfl) rfl) rfl rfl ?_
                refine .cv (VOk.to (d' := (.agg (e_api_Grant (T_api_Grant.mk y10_0_36 y10_1_37 y10_2_38 y10_3_39 y10_4_40)))) (.loadBAgg rfl Try.underlying34 rfl sz34 rfl rfl rfl) rfl) rfl rfl ?_
                refine .cg (GOk.call rfl rfl cl16 rfl (watchbilllaw22_below.ok h82) rfl) rfl rfl ?_
                refine .cv (VOk.mv (d := (.v (.bool t81))) rfl rfl) rfl rfl ?_
                refine OpsOk.consI rfl rfl rfl (.one rfl) rfl (fun hw83 => (VOk.g (VOk.to (VOk.fieldB rfl Try.underlying34 rfl sz3 rfl rfl) rfl))) ?_
                refine OpsOk.consI rfl rfl rfl (.one rfl) rfl (fun hw83 => (GOk.fr (fr' := [(81, (.bref 9 0))]) ⟨DLe.of_eq (cT hw83).symm, trivial⟩ (VOk.g (VOk.loadB (d := (.v (.int .i64 y9_0_31))) rfl Try.underlying3 rfl rfl rfl rfl)))) ?_
                refine OpsOk.consI rfl rfl rfl (.one rfl) rfl (fun hw83 => (GOk.fr (fr' := [(82, (.v (.int .i64 y9_0_31)))]) ⟨DLe.of_eq (cT hw83).symm, trivial⟩ (VOk.g (VOk.arith (op := .geq) (k := .i64) (a := y9_0_31) (b := 0) rfl rfl rfl rfl)))) ?_
                refine .cv (VOk.to (VOk.pickI (b := t81) (p := (decide (y9_0_31 ≥ 0))) (q := false) rfl rfl (fun hp84 => (cT (t_beq hp84))) (fun hp84 => rfl)) (pickAnd t81 (decide (y9_0_31 ≥ 0)))) rfl rfl ?_
                refine .cv (VOk.mv (d := (.v (.bool (t81 && (decide (y9_0_31 ≥ 0)))))) rfl rfl) rfl rfl ?_
                refine OpsOk.consI rfl rfl rfl (.one rfl) rfl (fun hw85 => (VOk.g (VOk.to (VOk.fieldB rfl Try.underlying34 rfl sz3 rfl rfl) rfl))) ?_
                refine OpsOk.consI rfl rfl rfl (.one rfl) rfl (fun hw85 => (GOk.fr (fr' := [(86, (.bref 9 0))]) ⟨DLe.of_eq (cT hw85).symm, trivial⟩ (VOk.g (VOk.loadB (d := (.v (.int .i64 y9_0_31))) rfl Try.underlying3 rfl rfl rfl rfl)))) ?_
                refine OpsOk.consI rfl rfl rfl (.one rfl) rfl (fun hw85 => (GOk.fr (fr' := [(87, (.v (.int .i64 y9_0_31)))]) ⟨DLe.of_eq (cT hw85).symm, trivial⟩ (VOk.g (VOk.arith (op := .leq) (k := .i64) (a := y9_0_31) (b := 3) rfl rfl rfl rfl)))) ?_
                refine .cv (VOk.to (VOk.pickI (b := (t81 && (decide (y9_0_31 ≥ 0)))) (p := (decide (y9_0_31 ≤ 3))) (q := false) rfl rfl (fun hp86 => (cT (t_beq hp86))) (fun hp86 => rfl)) (pickAnd (t81 && (decide (y9_0_31 ≥ 0))) (decide (y9_0_31 ≤ 3)))) rfl rfl ?_
                refine .cv (VOk.asg (d := (.v (.bool ((t81 && (decide (y9_0_31 ≥ 0))) && (decide (y9_0_31 ≤ 3)))))) rfl rfl) rfl rfl ?_
                exact .done (.rf rfl rfl)
              refine Ok.ret ?_
              obtain rfl := Option.some.inj H
              exact ⟨.inl rfl, ⟨_, (.cons (.tmp rfl) .nil), rfl⟩, trivial⟩

/-! watchbill/watchbilllaw22.DecideOrder: function 5 -/
def watchbilllaw22_DecideOrder.l0 (k : Nat) (a0 : List T_api_Rule) (a1 : Str) (a2 : Int) : Nat → List T_api_Rule → Int → Option Bool
  | 0, _, _ => none
  | m11 + 1, y7_8, x8_7 => (if (decide (x8_7 ≥ 0)) = true then (if (0 : Int) ≤ x8_7 ∧ x8_7 < (a0.length : Int) then (if (0 : Int) ≤ x8_7 ∧ x8_7 < (a0.length : Int) then (if (y7_8.length + ([(rd a0 x8_7), (rd a0 x8_7)] : List T_api_Rule).length) * 160 ≤ 140737488355328 then watchbilllaw22_DecideOrder.l0 k a0 a1 a2 m11 (y7_8 ++ ([(rd a0 x8_7), (rd a0 x8_7)] : List T_api_Rule)) (IntKind.i64.wrap (x8_7 - 1)) else none) else none) else none) else ((decide_Decide k a0 a1 a2).bind fun (t15 : T_api_Grant) => ((decide_Decide k y7_8 a1 a2).bind fun (t17 : T_api_Grant) => ((watchbillref22_Same k t15 t17).bind fun (t19 : Bool) => some t19))))
def watchbilllaw22_DecideOrder (k : Nat) (a0 : List T_api_Rule) (a1 : Str) (a2 : Int) : Option Bool := ((watchbilllaw22_awake k).bind fun (t1 : Bool) => (if (!t1) = true then some false else ((watchbilllaw18_Few k a0).bind fun (t3 : Bool) => (if ((!t3) || (decide ((a1.length : Int) > 2000))) = true then some true else watchbilllaw22_DecideOrder.l0 k a0 a1 a2 k ([] : List T_api_Rule) (IntKind.i64.wrap ((a0.length : Int) - 1))))))
theorem watchbilllaw22_DecideOrder.ok {k : Nat} {a0 : List T_api_Rule} {a1 : Str} {a2 : Int} {r : Bool} (H : watchbilllaw22_DecideOrder k a0 a1 a2 = some r) : Vx.Fn Try.prog 5 [(L 12 e_api_Rule a0), (S a1), (.v (.int .u64 a2))] [] (.v (.bool r)) [] := by
  unfold watchbilllaw22_DecideOrder at H
  refine Vx.Fn.of_okR Try.func5 rfl (Nat.le_of_ble_eq_true rfl) ?_
  refine Ok.seq ?_
  refine Ok.region (σ' := ⟨[(0, (L 12 e_api_Rule a0)), (1, (S a1)), (2, (.v (.int .u64 a2)))], []⟩) ?_ ?_
  · refine .cv (VOk.asg (d := (.v (.bool false))) rfl rfl) rfl rfl ?_
    exact .done (.rf rfl rfl)
  refine Ok.seq ?_
  refine Ok.seq ?_
  obtain ⟨t1, h2, H⟩ := bindE H
  refine Ok.region (σ' := ⟨[(0, (L 12 e_api_Rule a0)), (1, (S a1)), (2, (.v (.int .u64 a2))), (10, (.v (.bool (!t1))))], []⟩) ?_ ?_
  · refine .cg (GOk.call rfl rfl cl7 rfl (watchbilllaw22_awake.ok h2) rfl) rfl rfl ?_
    refine .cv (VOk.not (b := t1) rfl rfl) rfl rfl ?_
    exact .done (.rf rfl rfl)
  refine Ok.test (b := (!t1)) rfl (fun hb23 => ?_) (fun hb23 => ?_)
  · replace H := ifT H hb23
    refine Ok.seq ?_
    refine Ok.region (σ' := ⟨[(6, (.v (.bool false)))], []⟩) ?_ ?_
    · refine .cv (VOk.asg (d := (.v (.bool false))) rfl rfl) rfl rfl ?_
      exact .done (.rf rfl rfl)
    refine Ok.ret ?_
    obtain rfl := Option.some.inj H
    exact ⟨.inl rfl, ⟨_, (.cons (.tmp rfl) .nil), rfl⟩, trivial⟩
  · replace H := ifF H hb23
    refine Ok.skip ?_
    refine Ok.seq ?_
    refine Ok.seq ?_
    obtain ⟨t3, h4, H⟩ := bindE H
    refine Ok.region (σ' := ⟨[(0, (L 12 e_api_Rule a0)), (1, (S a1)), (2, (.v (.int .u64 a2))), (18, (.v (.bool ((!t3) || (decide ((a1.length : Int) > 2000))))))], []⟩) ?_ ?_
    · refine .cv (VOk.mv (d := (L 12 e_api_Rule a0)) rfl rfl) rfl rfl ?_
      refine .cg (GOk.call rfl rfl cl8 rfl (watchbilllaw18_Few.ok h4) rfl) rfl rfl ?_
      refine .cv (VOk.not (b := t3) rfl rfl) rfl rfl ?_
      refine .cv (VOk.mv (d := (.v (.bool (!t3)))) rfl rfl) rfl rfl ?_
      refine OpsOk.consI rfl rfl rfl (.one rfl) rfl (fun hw5 => (VOk.g (VOk.mv (d := (S a1)) rfl rfl))) ?_
      refine OpsOk.consI rfl rfl rfl (.one rfl) rfl (fun hw5 => (GOk.fr (fr' := [(15, (S a1))]) ⟨DLe.of_eq (cT hw5).symm, trivial⟩ (VOk.g (VOk.lenStr (s := a1) rfl Try.underlying9 rfl)))) ?_
      refine OpsOk.consI rfl rfl rfl (.one rfl) rfl (fun hw5 => (GOk.fr (fr' := [(16, (.v (.int .i64 (a1.length : Int))))]) ⟨DLe.of_eq (cT hw5).symm, trivial⟩ (VOk.g (VOk.arith (op := .gtr) (k := .i64) (a := (a1.length : Int)) (b := 2000) rfl rfl rfl rfl)))) ?_
      refine .cv (VOk.to (VOk.pickI (b := (!t3)) (p := true) (q := (decide ((a1.length : Int) > 2000))) rfl rfl (fun hp6 => rfl) (fun hp6 => (cT (f_beq hp6)))) (pickOr (!t3) (decide ((a1.length : Int) > 2000)))) rfl rfl ?_
      exact .done (.rf rfl rfl)
    refine Ok.test (b := ((!t3) || (decide ((a1.length : Int) > 2000)))) rfl (fun hb22 => ?_) (fun hb22 => ?_)
    · replace H := ifT H hb22
      refine Ok.seq ?_
      refine Ok.region (σ' := ⟨[(6, (.v (.bool true)))], []⟩) ?_ ?_
      · refine .cv (VOk.asg (d := (.v (.bool true))) rfl rfl) rfl rfl ?_
        exact .done (.rf rfl rfl)
      refine Ok.ret ?_
      obtain rfl := Option.some.inj H
      exact ⟨.inl rfl, ⟨_, (.cons (.tmp rfl) .nil), rfl⟩, trivial⟩
    · replace H := ifF H hb22
      refine Ok.skip ?_
      refine Ok.seq ?_
      refine Ok.region (σ' := ⟨[(0, (L 12 e_api_Rule a0)), (1, (S a1)), (2, (.v (.int .u64 a2))), (7, (.sref 7))], [(7, (.rows true 29 12 (([] : List T_api_Rule).map e_api_Rule)))]⟩) ?_ ?_
      · refine OpsOk.cons rfl (.nilT 7 29 12 (.inl rfl) rfl rfl) ?_
        exact .done (.rf rfl rfl)
      refine Ok.seq ?_
      refine Ok.seq ?_
      refine Ok.region (σ' := ⟨[(0, (L 12 e_api_Rule a0)), (1, (S a1)), (2, (.v (.int .u64 a2))), (7, (.sref 7)), (8, (.v (.int .i64 (IntKind.i64.wrap ((a0.length : Int) - 1)))))], [(7, (.rows true 29 12 (([] : List T_api_Rule).map e_api_Rule)))]⟩) ?_ ?_
      · refine .cv (VOk.mv (d := (L 12 e_api_Rule a0)) rfl rfl) rfl rfl ?_
        refine .cv (VOk.lenL (e := e_api_Rule) (xs := a0) rfl Try.underlying22 rfl) rfl rfl ?_
        refine .cv (VOk.arith (op := .sub) (k := .i64) (a := (a0.length : Int)) (b := 1) rfl rfl rfl rfl) rfl rfl ?_
        refine .cv (VOk.asg (d := (.v (.int .i64 (IntKind.i64.wrap ((a0.length : Int) - 1))))) rfl rfl) rfl rfl ?_
        exact .done (.rf rfl rfl)
      refine Ok.block ?_
      refine Ok.le (σ' := ⟨[(0, (L 12 e_api_Rule a0)), (1, (S a1)), (2, (.v (.int .u64 a2))), (7, (.sref 7)), (8, (.v (.int .i64 (IntKind.i64.wrap ((a0.length : Int) - 1)))))], [(7, (.rows true 29 12 (([] : List T_api_Rule).map e_api_Rule)))]⟩) (.rf rfl rfl) ?_
      refine Ok.loop (fun m11 σ => ∃ (y7_8 : List T_api_Rule) (x8_7 : Int), σ = ⟨[(0, (L 12 e_api_Rule a0)), (1, (S a1)), (2, (.v (.int .u64 a2))), (7, (.sref 7)), (8, (.v (.int .i64 x8_7)))], [(7, (.rows true 29 12 (y7_8.map e_api_Rule)))]⟩ ∧ watchbilllaw22_DecideOrder.l0 k a0 a1 a2 m11 y7_8 x8_7 = some r) k ⟨([] : List T_api_Rule), (IntKind.i64.wrap ((a0.length : Int) - 1)), rfl, H⟩ ?_
      rintro m11 σ ⟨y7_8, x8_7, rfl, H⟩
      cases m11 with
      | zero => exact absurd H (by simp [watchbilllaw22_DecideOrder.l0])
      | succ m11 =>
        unfold watchbilllaw22_DecideOrder.l0 at H
        refine Ok.seq ?_
        refine Ok.seq ?_
        refine Ok.region (σ' := ⟨[(0, (L 12 e_api_Rule a0)), (1, (S a1)), (2, (.v (.int .u64 a2))), (7, (.sref 7)), (8, (.v (.int .i64 x8_7))), (23, (.v (.bool (decide (x8_7 ≥ 0)))))], [(7, (.rows true 29 12 (y7_8.map e_api_Rule)))]⟩) ?_ ?_
        · refine .cv (VOk.mv (d := (.v (.int .i64 x8_7))) rfl rfl) rfl rfl ?_
          refine .cv (VOk.arith (op := .geq) (k := .i64) (a := x8_7) (b := 0) rfl rfl rfl rfl) rfl rfl ?_
          exact .done (.rf rfl rfl)
        refine Ok.test (b := (decide (x8_7 ≥ 0))) rfl (fun hb21 => ?_) (fun hb21 => ?_)
        · replace H := ifT H hb21
          refine Ok.skip ?_
          refine Ok.seq ?_
          refine Ok.block ?_
          obtain ⟨c12, H⟩ := assertE H
          obtain ⟨c13, H⟩ := assertE H
          obtain ⟨c14, H⟩ := assertE H
          refine Ok.le (σ' := ⟨[(0, (L 12 e_api_Rule a0)), (1, (S a1)), (2, (.v (.int .u64 a2))), (7, (.sref 7)), (8, (.v (.int .i64 x8_7)))], [(7, (.rows true 29 12 (y7_8.map e_api_Rule)))]⟩) (.rf rfl rfl) ?_
          refine Ok.drawE2 (σ' := ⟨[(0, (L 12 e_api_Rule a0)), (1, (S a1)), (2, (.v (.int .u64 a2))), (7, (.sref 7)), (8, (.v (.int .i64 x8_7)))], [(7, (.rows true 29 12 ((y7_8 ++ ([(rd a0 x8_7), (rd a0 x8_7)] : List T_api_Rule)).map e_api_Rule)))]⟩) [⟨true, [(7, (.sref 7))], [(7, (.rows true 29 12 (y7_8.map e_api_Rule)))], (.sref 7), [], false, []⟩, ⟨true, [(0, (L 12 e_api_Rule a0))], [], (L 12 e_api_Rule a0), [], false, []⟩, ⟨true, [(8, (.v (.int .i64 x8_7)))], [], (.v (.int .i64 x8_7)), [], false, []⟩, ⟨true, [(27, (L 12 e_api_Rule a0)), (28, (.v (.int .i64 x8_7)))], [], (.fp (e_api_Rule (rd a0 x8_7)) 0), [], false, []⟩, ⟨true, [(29, (.fp (e_api_Rule (rd a0 x8_7)) 0))], [], (.agg (e_api_Rule (rd a0 x8_7))), [], false, []⟩, ⟨true, [(0, (L 12 e_api_Rule a0))], [], (L 12 e_api_Rule a0), [], false, []⟩, ⟨true, [(8, (.v (.int .i64 x8_7)))], [], (.v (.int .i64 x8_7)), [], false, []⟩, ⟨true, [(31, (L 12 e_api_Rule a0)), (32, (.v (.int .i64 x8_7)))], [], (.fp (e_api_Rule (rd a0 x8_7)) 0), [], false, []⟩, ⟨true, [(33, (.fp (e_api_Rule (rd a0 x8_7)) 0))], [], (.agg (e_api_Rule (rd a0 x8_7))), [], false, []⟩, ⟨true, [(30, (.agg (e_api_Rule (rd a0 x8_7)))), (34, (.agg (e_api_Rule (rd a0 x8_7))))], [], (L 12 e_api_Rule ([(rd a0 x8_7), (rd a0 x8_7)] : List T_api_Rule)), [], false, []⟩, ⟨true, [(26, (.sref 7)), (35, (L 12 e_api_Rule ([(rd a0 x8_7), (rd a0 x8_7)] : List T_api_Rule)))], [(7, (.rows true 29 12 (y7_8.map e_api_Rule)))], (.sref 36), [(36, (.rows true 29 12 ((y7_8 ++ ([(rd a0 x8_7), (rd a0 x8_7)] : List T_api_Rule)).map e_api_Rule))), (7, .none)], true, []⟩, ⟨true, [(36, (.sref 36))], [(36, (.rows true 29 12 ((y7_8 ++ ([(rd a0 x8_7), (rd a0 x8_7)] : List T_api_Rule)).map e_api_Rule)))], (.sref 36), [], false, []⟩] [[], [], [], [1, 2], [3], [], [], [5, 6], [7], [4, 8], [0, 9], [0, 10]] mixed (by kernel_rfl) ?_ ?_
          · refine TxtE2.cons ⟨.same _, trivial⟩ ⟨rfl, trivial⟩ (It2.val rfl rfl (fun T hT => (VOk.g (VOk.mv (d := (.sref 7)) rfl rfl)))) ?_
            refine TxtE2.cons ⟨.same _, trivial⟩ trivial (It2.val rfl rfl (fun T hT => (VOk.g (VOk.mv (d := (L 12 e_api_Rule a0)) rfl rfl)))) ?_
            refine TxtE2.cons ⟨.same _, trivial⟩ trivial (It2.val rfl rfl (fun T hT => (VOk.g (VOk.mv (d := (.v (.int .i64 x8_7))) rfl rfl)))) ?_
            refine TxtE2.cons ⟨.same _, .same _, trivial⟩ trivial (It2.val rfl rfl (fun T hT => (VOk.g (VOk.indexL (sz := 12) (e := e_api_Rule) (xs := a0) (i := x8_7) rfl Try.underlying22 sz29 rfl rfl c12)))) ?_
            refine TxtE2.cons ⟨.same _, trivial⟩ trivial (It2.val rfl rfl (fun T hT => (VOk.g (VOk.to (d' := (.agg (e_api_Rule (rd a0 x8_7)))) (.loadFpAgg rfl Try.underlying29 rfl sz29 rfl rfl) rfl)))) ?_
            refine TxtE2.cons ⟨.same _, trivial⟩ trivial (It2.val rfl rfl (fun T hT => (VOk.g (VOk.mv (d := (L 12 e_api_Rule a0)) rfl rfl)))) ?_
            refine TxtE2.cons ⟨.same _, trivial⟩ trivial (It2.val rfl rfl (fun T hT => (VOk.g (VOk.mv (d := (.v (.int .i64 x8_7))) rfl rfl)))) ?_
            refine TxtE2.cons ⟨.same _, .same _, trivial⟩ trivial (It2.val rfl rfl (fun T hT => (VOk.g (VOk.indexL (sz := 12) (e := e_api_Rule) (xs := a0) (i := x8_7) rfl Try.underlying22 sz29 rfl rfl c13)))) ?_
            refine TxtE2.cons ⟨.same _, trivial⟩ trivial (It2.val rfl rfl (fun T hT => (VOk.g (VOk.to (d' := (.agg (e_api_Rule (rd a0 x8_7)))) (.loadFpAgg rfl Try.underlying29 rfl sz29 rfl rfl) rfl)))) ?_
            refine TxtE2.cons ⟨.same _, .same _, trivial⟩ trivial (It2.val rfl rfl (fun T hT => (GOk.to (d' := (L 12 e_api_Rule ([(rd a0 x8_7), (rd a0 x8_7)] : List T_api_Rule))) (GOk.lit rfl Try.underlying22 sz29 zs29 rfl rfl rfl rfl) rfl))) ?_
            refine TxtE2.cons ⟨.same _, .same _, trivial⟩ ⟨rfl, trivial⟩ (It2.appendL 36 (e := e_api_Rule) (xs := y7_8) (ys := ([(rd a0 x8_7), (rd a0 x8_7)] : List T_api_Rule)) rfl rfl Try.underlying22 elt29 rfl rfl rfl rfl c14 rfl rfl) ?_
            refine TxtE2.cons ⟨.same _, trivial⟩ ⟨rfl, trivial⟩ (It2.val rfl rfl (fun T hT => (VOk.g (VOk.asg (d := (.sref 36)) rfl rfl)))) ?_
            exact .doneS (SLe.trans (Le.s (.rf rfl rfl)) (SLe.ren 36 7 rfl rfl))
          refine Ok.region (σ' := ⟨[(0, (L 12 e_api_Rule a0)), (1, (S a1)), (2, (.v (.int .u64 a2))), (7, (.sref 7)), (8, (.v (.int .i64 (IntKind.i64.wrap (x8_7 - 1)))))], [(7, (.rows true 29 12 ((y7_8 ++ ([(rd a0 x8_7), (rd a0 x8_7)] : List T_api_Rule)).map e_api_Rule)))]⟩) ?_ ?_
          · refine .cv (VOk.mv (d := (.v (.int .i64 x8_7))) rfl rfl) rfl rfl ?_
            refine .cv (VOk.arith (op := .sub) (k := .i64) (a := x8_7) (b := 1) rfl rfl rfl rfl) rfl rfl ?_
            refine .cv (VOk.asg (d := (.v (.int .i64 (IntKind.i64.wrap (x8_7 - 1))))) rfl rfl) rfl rfl ?_
            exact .done (.rf rfl rfl)
          exact ⟨m11, Nat.lt_succ_self m11, (y7_8 ++ ([(rd a0 x8_7), (rd a0 x8_7)] : List T_api_Rule)), (IntKind.i64.wrap (x8_7 - 1)), rfl, H⟩
        · replace H := ifF H hb21
          refine Ok.exit ?_
          refine Ok.seq ?_
          obtain ⟨t15, h16, H⟩ := bindE H
          obtain ⟨t17, h18, H⟩ := bindE H
          obtain ⟨t19, h20, H⟩ := bindE H
          refine Ok.frzL 7 (e := e_api_Rule) (xs := y7_8) rfl ?_
          refine Ok.region (σ' := ⟨[(6, (.v (.bool t19)))], []⟩) ?_ ?_
          · refine .cv (VOk.mv (d := (L 12 e_api_Rule a0)) rfl rfl) rfl rfl ?_
            refine .cv (VOk.mv (d := (S a1)) rfl rfl) rfl rfl ?_
            refine .cv (VOk.mv (d := (.v (.int .u64 a2))) rfl rfl) rfl rfl ?_
            refine .cg (GOk.call rfl rfl cl14 rfl (decide_Decide.ok h16) rfl) rfl rfl ?_
            refine .cv (VOk.mv (d := (L 12 e_api_Rule y7_8)) rfl rfl) rfl rfl ?_
            refine .cv (VOk.mv (d := (S a1)) rfl rfl) rfl rfl ?_
            refine .cv (VOk.mv (d := (.v (.int .u64 a2))) rfl rfl) rfl rfl ?_
            refine .cg (GOk.call rfl rfl cl14 rfl (decide_Decide.ok h18) rfl) rfl rfl ?_
            refine .cg (GOk.call rfl rfl cl13 rfl (watchbillref22_Same.ok h20) rfl) rfl rfl ?_
            refine .cv (VOk.asg (d := (.v (.bool t19))) rfl rfl) rfl rfl ?_
            exact .done (.rf rfl rfl)
          refine Ok.ret ?_
          obtain rfl := Option.some.inj H
          exact ⟨.inl rfl, ⟨_, (.cons (.tmp rfl) .nil), rfl⟩, trivial⟩

/-! watchbill/watchbilllaw22.DecideHolds: function 6 -/
def watchbilllaw22_DecideHolds (k : Nat) (a0 : List T_api_Rule) (a1 : Str) (a2 : Int) (a3 : Int) : Option Bool := ((watchbilllaw22_awake k).bind fun (t1 : Bool) => (if (!t1) = true then some false else ((watchbilllaw18_Few k a0).bind fun (t3 : Bool) => (if (((!t3) || (decide ((a1.length : Int) > 2000))) || (decide (a3 < a2))) = true then some true else ((decide_Next k a0 a2).bind fun (t9 : Int × Bool) => (if (t9.2 && ((decide (t9.1 ≤ a2)) || (decide (a3 ≥ t9.1)))) = true then some (decide (t9.1 > a2)) else ((decide_Decide k a0 a1 a2).bind fun (t15 : T_api_Grant) => ((decide_Decide k a0 a1 a3).bind fun (t17 : T_api_Grant) => ((watchbillref22_Same k t15 t17).bind fun (t19 : Bool) => some t19)))))))))
theorem watchbilllaw22_DecideHolds.ok {k : Nat} {a0 : List T_api_Rule} {a1 : Str} {a2 : Int} {a3 : Int} {r : Bool} (H : watchbilllaw22_DecideHolds k a0 a1 a2 a3 = some r) : Vx.Fn Try.prog 6 [(L 12 e_api_Rule a0), (S a1), (.v (.int .u64 a2)), (.v (.int .u64 a3))] [] (.v (.bool r)) [] := by
  unfold watchbilllaw22_DecideHolds at H
  refine Vx.Fn.of_okR Try.func6 rfl (Nat.le_of_ble_eq_true rfl) ?_
  refine Ok.seq ?_
  refine Ok.region (σ' := ⟨[(0, (L 12 e_api_Rule a0)), (1, (S a1)), (2, (.v (.int .u64 a2))), (3, (.v (.int .u64 a3)))], []⟩) ?_ ?_
  · refine .cv (VOk.asg (d := (.v (.bool false))) rfl rfl) rfl rfl ?_
    exact .done (.rf rfl rfl)
  refine Ok.seq ?_
  refine Ok.seq ?_
  obtain ⟨t1, h2, H⟩ := bindE H
  refine Ok.region (σ' := ⟨[(0, (L 12 e_api_Rule a0)), (1, (S a1)), (2, (.v (.int .u64 a2))), (3, (.v (.int .u64 a3))), (12, (.v (.bool (!t1))))], []⟩) ?_ ?_
  · refine .cg (GOk.call rfl rfl cl7 rfl (watchbilllaw22_awake.ok h2) rfl) rfl rfl ?_
    refine .cv (VOk.not (b := t1) rfl rfl) rfl rfl ?_
    exact .done (.rf rfl rfl)
  refine Ok.test (b := (!t1)) rfl (fun hb23 => ?_) (fun hb23 => ?_)
  · replace H := ifT H hb23
    refine Ok.seq ?_
    refine Ok.region (σ' := ⟨[(8, (.v (.bool false)))], []⟩) ?_ ?_
    · refine .cv (VOk.asg (d := (.v (.bool false))) rfl rfl) rfl rfl ?_
      exact .done (.rf rfl rfl)
    refine Ok.ret ?_
    obtain rfl := Option.some.inj H
    exact ⟨.inl rfl, ⟨_, (.cons (.tmp rfl) .nil), rfl⟩, trivial⟩
  · replace H := ifF H hb23
    refine Ok.skip ?_
    refine Ok.seq ?_
    refine Ok.seq ?_
    obtain ⟨t3, h4, H⟩ := bindE H
    refine Ok.region (σ' := ⟨[(0, (L 12 e_api_Rule a0)), (1, (S a1)), (2, (.v (.int .u64 a2))), (3, (.v (.int .u64 a3))), (25, (.v (.bool (((!t3) || (decide ((a1.length : Int) > 2000))) || (decide (a3 < a2))))))], []⟩) ?_ ?_
    · refine .cv (VOk.mv (d := (L 12 e_api_Rule a0)) rfl rfl) rfl rfl ?_
      refine .cg (GOk.call rfl rfl cl8 rfl (watchbilllaw18_Few.ok h4) rfl) rfl rfl ?_
      refine .cv (VOk.not (b := t3) rfl rfl) rfl rfl ?_
      refine .cv (VOk.mv (d := (.v (.bool (!t3)))) rfl rfl) rfl rfl ?_
      refine OpsOk.consI rfl rfl rfl (.one rfl) rfl (fun hw5 => (VOk.g (VOk.mv (d := (S a1)) rfl rfl))) ?_
      refine OpsOk.consI rfl rfl rfl (.one rfl) rfl (fun hw5 => (GOk.fr (fr' := [(17, (S a1))]) ⟨DLe.of_eq (cT hw5).symm, trivial⟩ (VOk.g (VOk.lenStr (s := a1) rfl Try.underlying9 rfl)))) ?_
      refine OpsOk.consI rfl rfl rfl (.one rfl) rfl (fun hw5 => (GOk.fr (fr' := [(18, (.v (.int .i64 (a1.length : Int))))]) ⟨DLe.of_eq (cT hw5).symm, trivial⟩ (VOk.g (VOk.arith (op := .gtr) (k := .i64) (a := (a1.length : Int)) (b := 2000) rfl rfl rfl rfl)))) ?_
      refine .cv (VOk.to (VOk.pickI (b := (!t3)) (p := true) (q := (decide ((a1.length : Int) > 2000))) rfl rfl (fun hp6 => rfl) (fun hp6 => (cT (f_beq hp6)))) (pickOr (!t3) (decide ((a1.length : Int) > 2000)))) rfl rfl ?_
      refine .cv (VOk.mv (d := (.v (.bool ((!t3) || (decide ((a1.length : Int) > 2000)))))) rfl rfl) rfl rfl ?_
      refine OpsOk.consI rfl rfl rfl (.one rfl) rfl (fun hw7 => (VOk.g (VOk.mv (d := (.v (.int .u64 a3))) rfl rfl))) ?_
      refine OpsOk.consI rfl rfl rfl (.one rfl) rfl (fun hw7 => (VOk.g (VOk.mv (d := (.v (.int .u64 a2))) rfl rfl))) ?_
      refine OpsOk.consI rfl rfl rfl (.one rfl) rfl (fun hw7 => (GOk.fr (fr' := [(22, (.v (.int .u64 a3))), (23, (.v (.int .u64 a2)))]) ⟨DLe.of_eq (cT hw7).symm, DLe.of_eq (cT hw7).symm, trivial⟩ (VOk.g (VOk.arith (op := .lss) (k := .u64) (a := a3) (b := a2) rfl rfl rfl rfl)))) ?_
      refine .cv (VOk.to (VOk.pickI (b := ((!t3) || (decide ((a1.length : Int) > 2000)))) (p := true) (q := (decide (a3 < a2))) rfl rfl (fun hp8 => rfl) (fun hp8 => (cT (f_beq hp8)))) (pickOr ((!t3) || (decide ((a1.length : Int) > 2000))) (decide (a3 < a2)))) rfl rfl ?_
      exact .done (.rf rfl rfl)
    refine Ok.test (b := (((!t3) || (decide ((a1.length : Int) > 2000))) || (decide (a3 < a2)))) rfl (fun hb22 => ?_) (fun hb22 => ?_)
    · replace H := ifT H hb22
      refine Ok.seq ?_
      refine Ok.region (σ' := ⟨[(8, (.v (.bool true)))], []⟩) ?_ ?_
      · refine .cv (VOk.asg (d := (.v (.bool true))) rfl rfl) rfl rfl ?_
        exact .done (.rf rfl rfl)
      refine Ok.ret ?_
      obtain rfl := Option.some.inj H
      exact ⟨.inl rfl, ⟨_, (.cons (.tmp rfl) .nil), rfl⟩, trivial⟩
    · replace H := ifF H hb22
      refine Ok.skip ?_
      refine Ok.seq ?_
      obtain ⟨t9, h10, H⟩ := bindE H
      refine Ok.region (σ' := ⟨[(0, (L 12 e_api_Rule a0)), (1, (S a1)), (2, (.v (.int .u64 a2))), (3, (.v (.int .u64 a3))), (9, (.v (.int .u64 t9.1))), (10, (.v (.bool t9.2)))], []⟩) ?_ ?_
      · refine .cv (VOk.mv (d := (L 12 e_api_Rule a0)) rfl rfl) rfl rfl ?_
        refine .cv (VOk.mv (d := (.v (.int .u64 a2))) rfl rfl) rfl rfl ?_
        refine .cg (GOk.call rfl rfl cl11 rfl (decide_Next.ok h10) rfl) rfl rfl ?_
        refine .cv (VOk.mv (d := (.tup [(.v (.int .u64 t9.1)), (.v (.bool t9.2))])) rfl rfl) rfl rfl ?_
        refine .cv (VOk.extract (d := (.v (.int .u64 t9.1))) rfl rfl rfl) rfl rfl ?_
        refine .cv (VOk.extract (d := (.v (.bool t9.2))) rfl rfl rfl) rfl rfl ?_
        refine .cv (VOk.asg (d := (.v (.int .u64 t9.1))) rfl rfl) rfl rfl ?_
        refine .cv (VOk.asg (d := (.v (.bool t9.2))) rfl rfl) rfl rfl ?_
        exact .done (.rf rfl rfl)
      refine Ok.seq ?_
      refine Ok.seq ?_
      refine Ok.region (σ' := ⟨[(0, (L 12 e_api_Rule a0)), (1, (S a1)), (2, (.v (.int .u64 a2))), (3, (.v (.int .u64 a3))), (9, (.v (.int .u64 t9.1))), (42, (.v (.bool (t9.2 && ((decide (t9.1 ≤ a2)) || (decide (a3 ≥ t9.1)))))))], []⟩) ?_ ?_
      · refine .cv (VOk.mv (d := (.v (.bool t9.2))) rfl rfl) rfl rfl ?_
        refine .cv (VOk.mv (d := (.v (.bool t9.2))) rfl rfl) rfl rfl ?_
        refine OpsOk.consI rfl rfl rfl (.one rfl) rfl (fun hw11 => (VOk.g (VOk.mv (d := (.v (.int .u64 t9.1))) rfl rfl))) ?_
        refine OpsOk.consI rfl rfl rfl (.one rfl) rfl (fun hw11 => (VOk.g (VOk.mv (d := (.v (.int .u64 a2))) rfl rfl))) ?_
        refine OpsOk.consI rfl rfl rfl (.one rfl) rfl (fun hw11 => (GOk.fr (fr' := [(34, (.v (.int .u64 t9.1))), (35, (.v (.int .u64 a2)))]) ⟨DLe.of_eq (cT hw11).symm, DLe.of_eq (cT hw11).symm, trivial⟩ (VOk.g (VOk.arith (op := .leq) (k := .u64) (a := t9.1) (b := a2) rfl rfl rfl rfl)))) ?_
        refine OpsOk.consI rfl rfl rfl (.one rfl) rfl (fun hw11 => (GOk.fr (fr' := [(36, (.v (.bool (decide (t9.1 ≤ a2)))))]) ⟨DLe.of_eq (cT hw11).symm, trivial⟩ (VOk.g (VOk.mv (d := (.v (.bool (decide (t9.1 ≤ a2))))) rfl rfl)))) ?_
        refine OpsOk.consI rfl rfl rfl (.two rfl) rfl (fun hw12 => (VOk.g (VOk.mv (d := (.v (.int .u64 a3))) rfl rfl))) ?_
        refine OpsOk.consI rfl rfl rfl (.two rfl) rfl (fun hw12 => (VOk.g (VOk.mv (d := (.v (.int .u64 t9.1))) rfl rfl))) ?_
        refine OpsOk.consI rfl rfl rfl (.two rfl) rfl (fun hw12 => (GOk.fr (fr' := [(38, (.v (.int .u64 a3))), (39, (.v (.int .u64 t9.1)))]) ⟨DLe.of_eq (cT hw12).symm, DLe.of_eq (cT hw12).symm, trivial⟩ (VOk.g (VOk.arith (op := .geq) (k := .u64) (a := a3) (b := t9.1) rfl rfl rfl rfl)))) ?_
        refine OpsOk.consI rfl rfl rfl (.one rfl) rfl (fun hw11 => (VOk.g (VOk.to (VOk.pickI (b := (decide (t9.1 ≤ a2))) (p := true) (q := (decide (a3 ≥ t9.1))) rfl (cT hw11) (fun hp13 => rfl) (fun hp13 => (cT (and_i hw11 (f_beq hp13))))) (pickOr (decide (t9.1 ≤ a2)) (decide (a3 ≥ t9.1)))))) ?_
        refine .cv (VOk.to (VOk.pickI (b := t9.2) (p := ((decide (t9.1 ≤ a2)) || (decide (a3 ≥ t9.1)))) (q := false) rfl rfl (fun hp14 => (cT (t_beq hp14))) (fun hp14 => rfl)) (pickAnd t9.2 ((decide (t9.1 ≤ a2)) || (decide (a3 ≥ t9.1))))) rfl rfl ?_
        exact .done (.rf rfl rfl)
      refine Ok.test (b := (t9.2 && ((decide (t9.1 ≤ a2)) || (decide (a3 ≥ t9.1))))) rfl (fun hb21 => ?_) (fun hb21 => ?_)
      · replace H := ifT H hb21
        refine Ok.seq ?_
        refine Ok.region (σ' := ⟨[(8, (.v (.bool (decide (t9.1 > a2)))))], []⟩) ?_ ?_
        · refine .cv (VOk.mv (d := (.v (.int .u64 t9.1))) rfl rfl) rfl rfl ?_
          refine .cv (VOk.mv (d := (.v (.int .u64 a2))) rfl rfl) rfl rfl ?_
          refine .cv (VOk.arith (op := .gtr) (k := .u64) (a := t9.1) (b := a2) rfl rfl rfl rfl) rfl rfl ?_
          refine .cv (VOk.asg (d := (.v (.bool (decide (t9.1 > a2))))) rfl rfl) rfl rfl ?_
          exact .done (.rf rfl rfl)
        refine Ok.ret ?_
        obtain rfl := Option.some.inj H
        exact ⟨.inl rfl, ⟨_, (.cons (.tmp rfl) .nil), rfl⟩, trivial⟩
      · replace H := ifF H hb21
        refine Ok.skip ?_
        refine Ok.seq ?_
        obtain ⟨t15, h16, H⟩ := bindE H
        obtain ⟨t17, h18, H⟩ := bindE H
        obtain ⟨t19, h20, H⟩ := bindE H
        refine Ok.region (σ' := ⟨[(8, (.v (.bool t19)))], []⟩) ?_ ?_
        · refine .cv (VOk.mv (d := (L 12 e_api_Rule a0)) rfl rfl) rfl rfl ?_
          refine .cv (VOk.mv (d := (S a1)) rfl rfl) rfl rfl ?_
          refine .cv (VOk.mv (d := (.v (.int .u64 a2))) rfl rfl) rfl rfl ?_
          refine .cg (GOk.call rfl rfl cl14 rfl (decide_Decide.ok h16) rfl) rfl rfl ?_
          refine .cv (VOk.mv (d := (L 12 e_api_Rule a0)) rfl rfl) rfl rfl ?_
          refine .cv (VOk.mv (d := (S a1)) rfl rfl) rfl rfl ?_
          refine .cv (VOk.mv (d := (.v (.int .u64 a3))) rfl rfl) rfl rfl ?_
          refine .cg (GOk.call rfl rfl cl14 rfl (decide_Decide.ok h18) rfl) rfl rfl ?_
          refine .cg (GOk.call rfl rfl cl13 rfl (watchbillref22_Same.ok h20) rfl) rfl rfl ?_
          refine .cv (VOk.asg (d := (.v (.bool t19))) rfl rfl) rfl rfl ?_
          exact .done (.rf rfl rfl)
        refine Ok.ret ?_
        obtain rfl := Option.some.inj H
        exact ⟨.inl rfl, ⟨_, (.cons (.tmp rfl) .nil), rfl⟩, trivial⟩

end Go.Proofs.Ytkiikmejjcmafaa.Sh
