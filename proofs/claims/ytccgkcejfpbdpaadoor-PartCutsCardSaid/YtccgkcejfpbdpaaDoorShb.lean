import Derived.Test.YtccgkcejfpbdpaaDoorProg
import Derived.Test.YtccgkcejfpbdpaaDoorSha
namespace Go.Proofs.YtccgkcejfpbdpaaDoor.Sh
open Go Go.RowKit Go.Proofs.Vx
set_option linter.unusedVariables false

set_option maxRecDepth 100000
set_option maxHeartbeats 1000000
/-! watchbill/watchbilllaw08.awake: function 7 -/
def watchbilllaw08_awake (k : Nat) : Option Bool := ((part_Print k ([98] : Str) ([(T_api_Part.mk ([] : List T_api_Field) ([104, 105] : Str))] : List T_api_Part)).bind fun (t1 : Str × Int) => ((part_Parse k t1.1 ([98] : Str)).bind fun (t3 : (List T_api_Part) × Int) => (if (((((t1.1 == ([45, 45, 98, 13, 10, 13, 10, 104, 105, 13, 10, 45, 45, 98, 45, 45, 13, 10] : Str)) && (t1.2 == 0)) && ((t3.1.length : Int) == 1)) == true) = true → (0 : Int) ≤ 0 ∧ 0 < (t3.1.length : Int)) then (if ((((((t1.1 == ([45, 45, 98, 13, 10, 13, 10, 104, 105, 13, 10, 45, 45, 98, 45, 45, 13, 10] : Str)) && (t1.2 == 0)) && ((t3.1.length : Int) == 1)) && (((rd t3.1 0).Body) == ([104, 105] : Str))) == true) = true → (0 : Int) ≤ 0 ∧ 0 < (t3.1.length : Int)) then (((if (((((((t1.1 == ([45, 45, 98, 13, 10, 13, 10, 104, 105, 13, 10, 45, 45, 98, 45, 45, 13, 10] : Str)) && (t1.2 == 0)) && ((t3.1.length : Int) == 1)) && (((rd t3.1 0).Body) == ([104, 105] : Str))) && ((((rd t3.1 0).Fields).length : Int) == 0)) && (t3.2 == 0)) == true) = true then part_Choose k ([(T_api_Part.mk ([] : List T_api_Field) ([45, 45, 119, 98, 49] : Str))] : List T_api_Part) else some default)).bind fun (t18 : Str) => some (((((((t1.1 == ([45, 45, 98, 13, 10, 13, 10, 104, 105, 13, 10, 45, 45, 98, 45, 45, 13, 10] : Str)) && (t1.2 == 0)) && ((t3.1.length : Int) == 1)) && (((rd t3.1 0).Body) == ([104, 105] : Str))) && ((((rd t3.1 0).Fields).length : Int) == 0)) && (t3.2 == 0)) && (t18 == ([119, 98, 50] : Str)))) else none) else none)))
theorem watchbilllaw08_awake.ok {k : Nat} {r : Bool} (H : watchbilllaw08_awake k = some r) : Vx.Fn Tryd.prog 7 [] [] (.v (.bool r)) [] := by
  unfold watchbilllaw08_awake at H
  refine Vx.Fn.of_okR Tryd.func7 rfl (Nat.le_of_ble_eq_true rfl) ?_
  refine Ok.seq ?_
  refine Ok.region (σ' := ⟨[], []⟩) ?_ ?_
  · refine .cv (VOk.asg (d := (.v (.bool false))) rfl rfl) rfl rfl ?_
    exact .done (.rf rfl rfl)
  refine Ok.seq ?_
  obtain ⟨t1, h2, H⟩ := bindE H
  refine Ok.region (σ' := ⟨[(1, (S t1.1)), (2, (.v (.int .i64 t1.2)))], []⟩) ?_ ?_
  · refine .cv (VOk.to (d' := (.agg (e_api_Part (T_api_Part.mk ([] : List T_api_Field) ([104, 105] : Str))))) (.build [some 2, none] [(0, 1), (1, 1)] rfl Tryd.underlying43 (fa43 Tryd.underlying43) zo43 rfl rfl) rfl) rfl rfl ?_
    refine .cg (GOk.to (d' := (L 2 e_api_Part ([(T_api_Part.mk ([] : List T_api_Field) ([104, 105] : Str))] : List T_api_Part))) (GOk.lit rfl Tryd.underlying22 sz43 zs43 rfl rfl rfl rfl) rfl) rfl rfl ?_
    refine .cg (GOk.call rfl rfl cl9 rfl (part_Print.ok h2) rfl) rfl rfl ?_
    refine .cv (VOk.mv (d := (.tup [(S t1.1), (.v (.int .i64 t1.2))])) rfl rfl) rfl rfl ?_
    refine .cv (VOk.extract (d := (S t1.1)) rfl rfl rfl) rfl rfl ?_
    refine .cv (VOk.extract (d := (.v (.int .i64 t1.2))) rfl rfl rfl) rfl rfl ?_
    refine .cv (VOk.asg (d := (S t1.1)) rfl rfl) rfl rfl ?_
    refine .cv (VOk.asg (d := (.v (.int .i64 t1.2))) rfl rfl) rfl rfl ?_
    exact .done (.rf rfl rfl)
  refine Ok.seq ?_
  obtain ⟨t3, h4, H⟩ := bindE H
  refine Ok.region (σ' := ⟨[(1, (S t1.1)), (2, (.v (.int .i64 t1.2))), (3, (L 2 e_api_Part t3.1)), (4, (.v (.int .i64 t3.2)))], []⟩) ?_ ?_
  · refine .cv (VOk.mv (d := (S t1.1)) rfl rfl) rfl rfl ?_
    refine .cg (GOk.call rfl rfl cl13 rfl (part_Parse.ok h4) rfl) rfl rfl ?_
    refine .cv (VOk.mv (d := (.tup [(L 2 e_api_Part t3.1), (.v (.int .i64 t3.2))])) rfl rfl) rfl rfl ?_
    refine .cv (VOk.extract (d := (L 2 e_api_Part t3.1)) rfl rfl rfl) rfl rfl ?_
    refine .cv (VOk.extract (d := (.v (.int .i64 t3.2))) rfl rfl rfl) rfl rfl ?_
    refine .cv (VOk.asg (d := (L 2 e_api_Part t3.1)) rfl rfl) rfl rfl ?_
    refine .cv (VOk.asg (d := (.v (.int .i64 t3.2))) rfl rfl) rfl rfl ?_
    exact .done (.rf rfl rfl)
  refine Ok.seq ?_
  obtain ⟨c10, H⟩ := assertE H
  obtain ⟨c13, H⟩ := assertE H
  obtain ⟨t18, h19, H⟩ := bindE H
  refine Ok.region (σ' := ⟨[(0, (.v (.bool (((((((t1.1 == ([45, 45, 98, 13, 10, 13, 10, 104, 105, 13, 10, 45, 45, 98, 45, 45, 13, 10] : Str)) && (t1.2 == 0)) && ((t3.1.length : Int) == 1)) && (((rd t3.1 0).Body) == ([104, 105] : Str))) && ((((rd t3.1 0).Fields).length : Int) == 0)) && (t3.2 == 0)) && (t18 == ([119, 98, 50] : Str))))))], []⟩) ?_ ?_
  · refine .cv (VOk.mv (d := (S t1.1)) rfl rfl) rfl rfl ?_
    refine .cv (VOk.strOp (op := .eql) (a := t1.1) (b := ([45, 45, 98, 13, 10, 13, 10, 104, 105, 13, 10, 45, 45, 98, 45, 45, 13, 10] : Str)) rfl rfl rfl rfl) rfl rfl ?_
    refine .cv (VOk.mv (d := (.v (.bool (t1.1 == ([45, 45, 98, 13, 10, 13, 10, 104, 105, 13, 10, 45, 45, 98, 45, 45, 13, 10] : Str))))) rfl rfl) rfl rfl ?_
    refine OpsOk.consI rfl rfl rfl (.one rfl) rfl (fun hw5 => (VOk.g (VOk.mv (d := (.v (.int .i64 t1.2))) rfl rfl))) ?_
    refine OpsOk.consI rfl rfl rfl (.one rfl) rfl (fun hw5 => (GOk.fr (fr' := [(19, (.v (.int .i64 t1.2)))]) ⟨DLe.of_eq (cT hw5).symm, trivial⟩ (VOk.g (VOk.arith (op := .eql) (k := .i64) (a := t1.2) (b := 0) rfl rfl rfl rfl)))) ?_
    refine .cv (VOk.to (VOk.pickI (b := (t1.1 == ([45, 45, 98, 13, 10, 13, 10, 104, 105, 13, 10, 45, 45, 98, 45, 45, 13, 10] : Str))) (p := (t1.2 == 0)) (q := false) rfl rfl (fun hp6 => (cT (t_beq hp6))) (fun hp6 => rfl)) (pickAnd (t1.1 == ([45, 45, 98, 13, 10, 13, 10, 104, 105, 13, 10, 45, 45, 98, 45, 45, 13, 10] : Str)) (t1.2 == 0))) rfl rfl ?_
    refine .cv (VOk.mv (d := (.v (.bool ((t1.1 == ([45, 45, 98, 13, 10, 13, 10, 104, 105, 13, 10, 45, 45, 98, 45, 45, 13, 10] : Str)) && (t1.2 == 0))))) rfl rfl) rfl rfl ?_
    refine OpsOk.consI rfl rfl rfl (.one rfl) rfl (fun hw7 => (VOk.g (VOk.mv (d := (L 2 e_api_Part t3.1)) rfl rfl))) ?_
    refine OpsOk.consI rfl rfl rfl (.one rfl) rfl (fun hw7 => (GOk.fr (fr' := [(23, (L 2 e_api_Part t3.1))]) ⟨DLe.of_eq (cT hw7).symm, trivial⟩ (VOk.g (VOk.lenL (e := e_api_Part) (xs := t3.1) rfl Tryd.underlying22 rfl)))) ?_
    refine OpsOk.consI rfl rfl rfl (.one rfl) rfl (fun hw7 => (GOk.fr (fr' := [(24, (.v (.int .i64 (t3.1.length : Int))))]) ⟨DLe.of_eq (cT hw7).symm, trivial⟩ (VOk.g (VOk.arith (op := .eql) (k := .i64) (a := (t3.1.length : Int)) (b := 1) rfl rfl rfl rfl)))) ?_
    refine .cv (VOk.to (VOk.pickI (b := ((t1.1 == ([45, 45, 98, 13, 10, 13, 10, 104, 105, 13, 10, 45, 45, 98, 45, 45, 13, 10] : Str)) && (t1.2 == 0))) (p := ((t3.1.length : Int) == 1)) (q := false) rfl rfl (fun hp8 => (cT (t_beq hp8))) (fun hp8 => rfl)) (pickAnd ((t1.1 == ([45, 45, 98, 13, 10, 13, 10, 104, 105, 13, 10, 45, 45, 98, 45, 45, 13, 10] : Str)) && (t1.2 == 0)) ((t3.1.length : Int) == 1))) rfl rfl ?_
    refine .cv (VOk.mv (d := (.v (.bool (((t1.1 == ([45, 45, 98, 13, 10, 13, 10, 104, 105, 13, 10, 45, 45, 98, 45, 45, 13, 10] : Str)) && (t1.2 == 0)) && ((t3.1.length : Int) == 1))))) rfl rfl) rfl rfl ?_
    refine OpsOk.consI rfl rfl rfl (.one rfl) rfl (fun hw9 => (VOk.g (VOk.mv (d := (L 2 e_api_Part t3.1)) rfl rfl))) ?_
    refine OpsOk.consI rfl rfl rfl (.one rfl) rfl (fun hw9 => (GOk.fr (fr' := [(28, (L 2 e_api_Part t3.1))]) ⟨DLe.of_eq (cT hw9).symm, trivial⟩ (VOk.g (VOk.indexL (sz := 2) (e := e_api_Part) (xs := t3.1) (i := 0) rfl Tryd.underlying22 sz43 rfl rfl (c10 hw9))))) ?_
    refine OpsOk.consI rfl rfl rfl (.one rfl) rfl (fun hw9 => (GOk.fr (fr' := [(29, (.fp (e_api_Part (rd t3.1 0)) 0))]) ⟨DLe.of_eq (cT hw9).symm, trivial⟩ (VOk.g (VOk.to (VOk.fieldFp rfl Tryd.underlying43 rfl sz9 rfl) rfl)))) ?_
    refine OpsOk.consI rfl rfl rfl (.one rfl) rfl (fun hw9 => (GOk.fr (fr' := [(30, (.fp (e_api_Part (rd t3.1 0)) 1))]) ⟨DLe.of_eq (cT hw9).symm, trivial⟩ (VOk.g (VOk.loadFp (d := (S ((rd t3.1 0).Body))) rfl Tryd.underlying9 rfl rfl rfl)))) ?_
    refine OpsOk.consI rfl rfl rfl (.one rfl) rfl (fun hw9 => (GOk.fr (fr' := [(31, (S ((rd t3.1 0).Body)))]) ⟨DLe.of_eq (cT hw9).symm, trivial⟩ (VOk.g (VOk.strOp (op := .eql) (a := (rd t3.1 0).Body) (b := ([104, 105] : Str)) rfl rfl rfl rfl)))) ?_
    refine .cv (VOk.to (VOk.pickI (b := (((t1.1 == ([45, 45, 98, 13, 10, 13, 10, 104, 105, 13, 10, 45, 45, 98, 45, 45, 13, 10] : Str)) && (t1.2 == 0)) && ((t3.1.length : Int) == 1))) (p := (((rd t3.1 0).Body) == ([104, 105] : Str))) (q := false) rfl rfl (fun hp11 => (cT (t_beq hp11))) (fun hp11 => rfl)) (pickAnd (((t1.1 == ([45, 45, 98, 13, 10, 13, 10, 104, 105, 13, 10, 45, 45, 98, 45, 45, 13, 10] : Str)) && (t1.2 == 0)) && ((t3.1.length : Int) == 1)) (((rd t3.1 0).Body) == ([104, 105] : Str)))) rfl rfl ?_
    refine .cv (VOk.mv (d := (.v (.bool ((((t1.1 == ([45, 45, 98, 13, 10, 13, 10, 104, 105, 13, 10, 45, 45, 98, 45, 45, 13, 10] : Str)) && (t1.2 == 0)) && ((t3.1.length : Int) == 1)) && (((rd t3.1 0).Body) == ([104, 105] : Str)))))) rfl rfl) rfl rfl ?_
    refine OpsOk.consI rfl rfl rfl (.one rfl) rfl (fun hw12 => (VOk.g (VOk.mv (d := (L 2 e_api_Part t3.1)) rfl rfl))) ?_
    refine OpsOk.consI rfl rfl rfl (.one rfl) rfl (fun hw12 => (GOk.fr (fr' := [(35, (L 2 e_api_Part t3.1))]) ⟨DLe.of_eq (cT hw12).symm, trivial⟩ (VOk.g (VOk.indexL (sz := 2) (e := e_api_Part) (xs := t3.1) (i := 0) rfl Tryd.underlying22 sz43 rfl rfl (c13 hw12))))) ?_
    refine OpsOk.consI rfl rfl rfl (.one rfl) rfl (fun hw12 => (GOk.fr (fr' := [(36, (.fp (e_api_Part (rd t3.1 0)) 0))]) ⟨DLe.of_eq (cT hw12).symm, trivial⟩ (VOk.g (VOk.to (VOk.fieldFp rfl Tryd.underlying43 rfl sz41 rfl) rfl)))) ?_
    refine OpsOk.consI rfl rfl rfl (.one rfl) rfl (fun hw12 => (GOk.fr (fr' := [(37, (.fp (e_api_Part (rd t3.1 0)) 0))]) ⟨DLe.of_eq (cT hw12).symm, trivial⟩ (VOk.g (VOk.loadFp (d := (L 2 e_api_Field ((rd t3.1 0).Fields))) rfl Tryd.underlying41 rfl rfl rfl)))) ?_
    refine OpsOk.consI rfl rfl rfl (.one rfl) rfl (fun hw12 => (GOk.fr (fr' := [(38, (L 2 e_api_Field ((rd t3.1 0).Fields)))]) ⟨DLe.of_eq (cT hw12).symm, trivial⟩ (VOk.g (VOk.lenL (e := e_api_Field) (xs := (rd t3.1 0).Fields) rfl Tryd.underlying41 rfl)))) ?_
    refine OpsOk.consI rfl rfl rfl (.one rfl) rfl (fun hw12 => (GOk.fr (fr' := [(39, (.v (.int .i64 (((rd t3.1 0).Fields).length : Int))))]) ⟨DLe.of_eq (cT hw12).symm, trivial⟩ (VOk.g (VOk.arith (op := .eql) (k := .i64) (a := (((rd t3.1 0).Fields).length : Int)) (b := 0) rfl rfl rfl rfl)))) ?_
    refine .cv (VOk.to (VOk.pickI (b := ((((t1.1 == ([45, 45, 98, 13, 10, 13, 10, 104, 105, 13, 10, 45, 45, 98, 45, 45, 13, 10] : Str)) && (t1.2 == 0)) && ((t3.1.length : Int) == 1)) && (((rd t3.1 0).Body) == ([104, 105] : Str)))) (p := ((((rd t3.1 0).Fields).length : Int) == 0)) (q := false) rfl rfl (fun hp14 => (cT (t_beq hp14))) (fun hp14 => rfl)) (pickAnd ((((t1.1 == ([45, 45, 98, 13, 10, 13, 10, 104, 105, 13, 10, 45, 45, 98, 45, 45, 13, 10] : Str)) && (t1.2 == 0)) && ((t3.1.length : Int) == 1)) && (((rd t3.1 0).Body) == ([104, 105] : Str))) ((((rd t3.1 0).Fields).length : Int) == 0))) rfl rfl ?_
    refine .cv (VOk.mv (d := (.v (.bool (((((t1.1 == ([45, 45, 98, 13, 10, 13, 10, 104, 105, 13, 10, 45, 45, 98, 45, 45, 13, 10] : Str)) && (t1.2 == 0)) && ((t3.1.length : Int) == 1)) && (((rd t3.1 0).Body) == ([104, 105] : Str))) && ((((rd t3.1 0).Fields).length : Int) == 0))))) rfl rfl) rfl rfl ?_
    refine OpsOk.consI rfl rfl rfl (.one rfl) rfl (fun hw15 => (VOk.g (VOk.mv (d := (.v (.int .i64 t3.2))) rfl rfl))) ?_
    refine OpsOk.consI rfl rfl rfl (.one rfl) rfl (fun hw15 => (GOk.fr (fr' := [(43, (.v (.int .i64 t3.2)))]) ⟨DLe.of_eq (cT hw15).symm, trivial⟩ (VOk.g (VOk.arith (op := .eql) (k := .i64) (a := t3.2) (b := 0) rfl rfl rfl rfl)))) ?_
    refine .cv (VOk.to (VOk.pickI (b := (((((t1.1 == ([45, 45, 98, 13, 10, 13, 10, 104, 105, 13, 10, 45, 45, 98, 45, 45, 13, 10] : Str)) && (t1.2 == 0)) && ((t3.1.length : Int) == 1)) && (((rd t3.1 0).Body) == ([104, 105] : Str))) && ((((rd t3.1 0).Fields).length : Int) == 0))) (p := (t3.2 == 0)) (q := false) rfl rfl (fun hp16 => (cT (t_beq hp16))) (fun hp16 => rfl)) (pickAnd (((((t1.1 == ([45, 45, 98, 13, 10, 13, 10, 104, 105, 13, 10, 45, 45, 98, 45, 45, 13, 10] : Str)) && (t1.2 == 0)) && ((t3.1.length : Int) == 1)) && (((rd t3.1 0).Body) == ([104, 105] : Str))) && ((((rd t3.1 0).Fields).length : Int) == 0)) (t3.2 == 0))) rfl rfl ?_
    refine .cv (VOk.mv (d := (.v (.bool ((((((t1.1 == ([45, 45, 98, 13, 10, 13, 10, 104, 105, 13, 10, 45, 45, 98, 45, 45, 13, 10] : Str)) && (t1.2 == 0)) && ((t3.1.length : Int) == 1)) && (((rd t3.1 0).Body) == ([104, 105] : Str))) && ((((rd t3.1 0).Fields).length : Int) == 0)) && (t3.2 == 0))))) rfl rfl) rfl rfl ?_
    refine OpsOk.consI rfl rfl rfl (.one rfl) rfl (fun hw17 => (VOk.g (VOk.to (d' := (.agg (e_api_Part (T_api_Part.mk ([] : List T_api_Field) ([45, 45, 119, 98, 49] : Str))))) (.build [some 2, none] [(0, 1), (1, 1)] rfl Tryd.underlying43 (fa43 Tryd.underlying43) zo43 rfl rfl) rfl))) ?_
    refine OpsOk.consI rfl rfl rfl (.one rfl) rfl (fun hw17 => (GOk.fr (fr' := [(47, (.agg (e_api_Part (T_api_Part.mk ([] : List T_api_Field) ([45, 45, 119, 98, 49] : Str)))))]) ⟨DLe.of_eq (cT hw17).symm, trivial⟩ (GOk.to (d' := (L 2 e_api_Part ([(T_api_Part.mk ([] : List T_api_Field) ([45, 45, 119, 98, 49] : Str))] : List T_api_Part))) (GOk.lit rfl Tryd.underlying22 sz43 zs43 rfl rfl rfl rfl) rfl))) ?_
    refine OpsOk.consI rfl rfl rfl (.one rfl) rfl (fun hw17 => (GOk.fr (fr' := [(48, (L 2 e_api_Part ([(T_api_Part.mk ([] : List T_api_Field) ([45, 45, 119, 98, 49] : Str))] : List T_api_Part)))]) ⟨DLe.of_eq (cT hw17).symm, trivial⟩ (GOk.call rfl rfl cl11 rfl (part_Choose.ok (ifT h19 hw17)) rfl))) ?_
    refine OpsOk.consI rfl rfl rfl (.one rfl) rfl (fun hw17 => (GOk.fr (fr' := [(49, (S t18))]) ⟨DLe.of_eq (cT hw17).symm, trivial⟩ (VOk.g (VOk.strOp (op := .eql) (a := t18) (b := ([119, 98, 50] : Str)) rfl rfl rfl rfl)))) ?_
    refine .cv (VOk.to (VOk.pickI (b := ((((((t1.1 == ([45, 45, 98, 13, 10, 13, 10, 104, 105, 13, 10, 45, 45, 98, 45, 45, 13, 10] : Str)) && (t1.2 == 0)) && ((t3.1.length : Int) == 1)) && (((rd t3.1 0).Body) == ([104, 105] : Str))) && ((((rd t3.1 0).Fields).length : Int) == 0)) && (t3.2 == 0))) (p := (t18 == ([119, 98, 50] : Str))) (q := false) rfl rfl (fun hp20 => (cT (t_beq hp20))) (fun hp20 => rfl)) (pickAnd ((((((t1.1 == ([45, 45, 98, 13, 10, 13, 10, 104, 105, 13, 10, 45, 45, 98, 45, 45, 13, 10] : Str)) && (t1.2 == 0)) && ((t3.1.length : Int) == 1)) && (((rd t3.1 0).Body) == ([104, 105] : Str))) && ((((rd t3.1 0).Fields).length : Int) == 0)) && (t3.2 == 0)) (t18 == ([119, 98, 50] : Str)))) rfl rfl ?_
    refine .cv (VOk.asg (d := (.v (.bool (((((((t1.1 == ([45, 45, 98, 13, 10, 13, 10, 104, 105, 13, 10, 45, 45, 98, 45, 45, 13, 10] : Str)) && (t1.2 == 0)) && ((t3.1.length : Int) == 1)) && (((rd t3.1 0).Body) == ([104, 105] : Str))) && ((((rd t3.1 0).Fields).length : Int) == 0)) && (t3.2 == 0)) && (t18 == ([119, 98, 50] : Str)))))) rfl rfl) rfl rfl ?_
    exact .done (.rf rfl rfl)
  refine Ok.ret ?_
  obtain rfl := Option.some.inj H
  exact ⟨.inl rfl, ⟨_, (.cons (.tmp rfl) .nil), rfl⟩, trivial⟩

/-! watchbill/watchbilllaw07.Few: function 18 -/
def watchbilllaw07_Few.l0 (k : Nat) (a0 : List T_api_Field) : Nat → Int → Int → Option Bool
  | 0, _, _ => none
  | m5 + 1, x3_1, x4_2 => (if ((decide (x4_2 < (a0.length : Int))) && (decide (x3_1 < 5000))) = true then (if (0 : Int) ≤ x4_2 ∧ x4_2 < (a0.length : Int) then (if (0 : Int) ≤ x4_2 ∧ x4_2 < (a0.length : Int) then watchbilllaw07_Few.l0 k a0 m5 (IntKind.i64.wrap ((IntKind.i64.wrap (x3_1 + (if 5000 < (((rd a0 x4_2).Name).length : Int) then 5000 else (((rd a0 x4_2).Name).length : Int)))) + (if 5000 < (((rd a0 x4_2).Value).length : Int) then 5000 else (((rd a0 x4_2).Value).length : Int)))) (IntKind.i64.wrap (x4_2 + 1)) else none) else none) else some (decide (x3_1 < 5000)))
def watchbilllaw07_Few (k : Nat) (a0 : List T_api_Field) : Option Bool := watchbilllaw07_Few.l0 k a0 k (if 5000 < (a0.length : Int) then 5000 else (a0.length : Int)) 0
theorem watchbilllaw07_Few.ok {k : Nat} {a0 : List T_api_Field} {r : Bool} (H : watchbilllaw07_Few k a0 = some r) : Vx.Fn Tryd.prog 18 [(L 2 e_api_Field a0)] [] (.v (.bool r)) [] := by
  unfold watchbilllaw07_Few at H
  refine Vx.Fn.of_okR Tryd.func18 rfl (Nat.le_of_ble_eq_true rfl) ?_
  refine Ok.seq ?_
  refine Ok.region (σ' := ⟨[(0, (L 2 e_api_Field a0))], []⟩) ?_ ?_
  · refine .cv (VOk.asg (d := (.v (.bool false))) rfl rfl) rfl rfl ?_
    exact .done (.rf rfl rfl)
  refine Ok.seq ?_
  refine Ok.region (σ' := ⟨[(0, (L 2 e_api_Field a0)), (3, (.v (.int .i64 (if 5000 < (a0.length : Int) then 5000 else (a0.length : Int)))))], []⟩) ?_ ?_
  · refine .cv (VOk.mv (d := (L 2 e_api_Field a0)) rfl rfl) rfl rfl ?_
    refine .cv (VOk.lenL (e := e_api_Field) (xs := a0) rfl Tryd.underlying41 rfl) rfl rfl ?_
    refine .cv (VOk.min2 (a := (a0.length : Int)) (b := 5000) rfl rfl rfl) rfl rfl ?_
    refine .cv (VOk.asg (d := (.v (.int .i64 (if 5000 < (a0.length : Int) then 5000 else (a0.length : Int))))) rfl rfl) rfl rfl ?_
    exact .done (.rf rfl rfl)
  refine Ok.seq ?_
  refine Ok.seq ?_
  refine Ok.region (σ' := ⟨[(0, (L 2 e_api_Field a0)), (3, (.v (.int .i64 (if 5000 < (a0.length : Int) then 5000 else (a0.length : Int))))), (4, (.v (.int .i64 0)))], []⟩) ?_ ?_
  · refine .cv (VOk.asg (d := (.v (.int .i64 0))) rfl rfl) rfl rfl ?_
    exact .done (.rf rfl rfl)
  refine Ok.block ?_
  refine Ok.le (σ' := ⟨[(0, (L 2 e_api_Field a0)), (3, (.v (.int .i64 (if 5000 < (a0.length : Int) then 5000 else (a0.length : Int))))), (4, (.v (.int .i64 0)))], []⟩) (.rf rfl rfl) ?_
  refine Ok.loop (fun m5 σ => ∃ (x3_1 : Int) (x4_2 : Int), σ = ⟨[(0, (L 2 e_api_Field a0)), (3, (.v (.int .i64 x3_1))), (4, (.v (.int .i64 x4_2)))], []⟩ ∧ watchbilllaw07_Few.l0 k a0 m5 x3_1 x4_2 = some r) k ⟨(if 5000 < (a0.length : Int) then 5000 else (a0.length : Int)), 0, rfl, H⟩ ?_
  rintro m5 σ ⟨x3_1, x4_2, rfl, H⟩
  cases m5 with
  | zero => exact absurd H (by simp [watchbilllaw07_Few.l0])
  | succ m5 =>
    unfold watchbilllaw07_Few.l0 at H
    refine Ok.seq ?_
    refine Ok.seq ?_
    refine Ok.region (σ' := ⟨[(0, (L 2 e_api_Field a0)), (3, (.v (.int .i64 x3_1))), (4, (.v (.int .i64 x4_2))), (15, (.v (.bool ((decide (x4_2 < (a0.length : Int))) && (decide (x3_1 < 5000))))))], []⟩) ?_ ?_
    · refine .cv (VOk.mv (d := (.v (.int .i64 x4_2))) rfl rfl) rfl rfl ?_
      refine .cv (VOk.mv (d := (L 2 e_api_Field a0)) rfl rfl) rfl rfl ?_
      refine .cv (VOk.lenL (e := e_api_Field) (xs := a0) rfl Tryd.underlying41 rfl) rfl rfl ?_
      refine .cv (VOk.arith (op := .lss) (k := .i64) (a := x4_2) (b := (a0.length : Int)) rfl rfl rfl rfl) rfl rfl ?_
      refine .cv (VOk.mv (d := (.v (.bool (decide (x4_2 < (a0.length : Int)))))) rfl rfl) rfl rfl ?_
      refine OpsOk.consI rfl rfl rfl (.one rfl) rfl (fun hw6 => (VOk.g (VOk.mv (d := (.v (.int .i64 x3_1))) rfl rfl))) ?_
      refine OpsOk.consI rfl rfl rfl (.one rfl) rfl (fun hw6 => (GOk.fr (fr' := [(13, (.v (.int .i64 x3_1)))]) ⟨DLe.of_eq (cT hw6).symm, trivial⟩ (VOk.g (VOk.arith (op := .lss) (k := .i64) (a := x3_1) (b := 5000) rfl rfl rfl rfl)))) ?_
      refine .cv (VOk.to (VOk.pickI (b := (decide (x4_2 < (a0.length : Int)))) (p := (decide (x3_1 < 5000))) (q := false) rfl rfl (fun hp7 => (cT (t_beq hp7))) (fun hp7 => rfl)) (pickAnd (decide (x4_2 < (a0.length : Int))) (decide (x3_1 < 5000)))) rfl rfl ?_
      exact .done (.rf rfl rfl)
    refine Ok.test (b := ((decide (x4_2 < (a0.length : Int))) && (decide (x3_1 < 5000)))) rfl (fun hb10 => ?_) (fun hb10 => ?_)
    · replace H := ifT H hb10
      refine Ok.skip ?_
      refine Ok.seq ?_
      refine Ok.block ?_
      obtain ⟨c8, H⟩ := assertE H
      obtain ⟨c9, H⟩ := assertE H
      refine Ok.drawE (σ' := ⟨[(0, (L 2 e_api_Field a0)), (3, (.v (.int .i64 (IntKind.i64.wrap ((IntKind.i64.wrap (x3_1 + (if 5000 < (((rd a0 x4_2).Name).length : Int) then 5000 else (((rd a0 x4_2).Name).length : Int)))) + (if 5000 < (((rd a0 x4_2).Value).length : Int) then 5000 else (((rd a0 x4_2).Value).length : Int))))))), (4, (.v (.int .i64 x4_2)))], []⟩) [⟨true, [(3, (.v (.int .i64 x3_1)))], (.v (.int .i64 x3_1))⟩, ⟨true, [(0, (L 2 e_api_Field a0))], (L 2 e_api_Field a0)⟩, ⟨true, [(4, (.v (.int .i64 x4_2)))], (.v (.int .i64 x4_2))⟩, ⟨true, [(19, (L 2 e_api_Field a0)), (20, (.v (.int .i64 x4_2)))], (.fp (e_api_Field (rd a0 x4_2)) 0)⟩, ⟨true, [(21, (.fp (e_api_Field (rd a0 x4_2)) 0))], (.fp (e_api_Field (rd a0 x4_2)) 0)⟩, ⟨true, [(22, (.fp (e_api_Field (rd a0 x4_2)) 0))], (S ((rd a0 x4_2).Name))⟩, ⟨true, [(23, (S ((rd a0 x4_2).Name)))], (.v (.int .i64 (((rd a0 x4_2).Name).length : Int)))⟩, ⟨true, [(24, (.v (.int .i64 (((rd a0 x4_2).Name).length : Int))))], (.v (.int .i64 (if 5000 < (((rd a0 x4_2).Name).length : Int) then 5000 else (((rd a0 x4_2).Name).length : Int))))⟩, ⟨true, [(18, (.v (.int .i64 x3_1))), (25, (.v (.int .i64 (if 5000 < (((rd a0 x4_2).Name).length : Int) then 5000 else (((rd a0 x4_2).Name).length : Int)))))], (.v (.int .i64 (IntKind.i64.wrap (x3_1 + (if 5000 < (((rd a0 x4_2).Name).length : Int) then 5000 else (((rd a0 x4_2).Name).length : Int))))))⟩, ⟨true, [(0, (L 2 e_api_Field a0))], (L 2 e_api_Field a0)⟩, ⟨true, [(4, (.v (.int .i64 x4_2)))], (.v (.int .i64 x4_2))⟩, ⟨true, [(27, (L 2 e_api_Field a0)), (28, (.v (.int .i64 x4_2)))], (.fp (e_api_Field (rd a0 x4_2)) 0)⟩, ⟨true, [(29, (.fp (e_api_Field (rd a0 x4_2)) 0))], (.fp (e_api_Field (rd a0 x4_2)) 1)⟩, ⟨true, [(30, (.fp (e_api_Field (rd a0 x4_2)) 1))], (S ((rd a0 x4_2).Value))⟩, ⟨true, [(31, (S ((rd a0 x4_2).Value)))], (.v (.int .i64 (((rd a0 x4_2).Value).length : Int)))⟩, ⟨true, [(32, (.v (.int .i64 (((rd a0 x4_2).Value).length : Int))))], (.v (.int .i64 (if 5000 < (((rd a0 x4_2).Value).length : Int) then 5000 else (((rd a0 x4_2).Value).length : Int))))⟩, ⟨true, [(26, (.v (.int .i64 (IntKind.i64.wrap (x3_1 + (if 5000 < (((rd a0 x4_2).Name).length : Int) then 5000 else (((rd a0 x4_2).Name).length : Int))))))), (33, (.v (.int .i64 (if 5000 < (((rd a0 x4_2).Value).length : Int) then 5000 else (((rd a0 x4_2).Value).length : Int)))))], (.v (.int .i64 (IntKind.i64.wrap ((IntKind.i64.wrap (x3_1 + (if 5000 < (((rd a0 x4_2).Name).length : Int) then 5000 else (((rd a0 x4_2).Name).length : Int)))) + (if 5000 < (((rd a0 x4_2).Value).length : Int) then 5000 else (((rd a0 x4_2).Value).length : Int))))))⟩, ⟨true, [(34, (.v (.int .i64 (IntKind.i64.wrap ((IntKind.i64.wrap (x3_1 + (if 5000 < (((rd a0 x4_2).Name).length : Int) then 5000 else (((rd a0 x4_2).Name).length : Int)))) + (if 5000 < (((rd a0 x4_2).Value).length : Int) then 5000 else (((rd a0 x4_2).Value).length : Int)))))))], (.v (.int .i64 (IntKind.i64.wrap ((IntKind.i64.wrap (x3_1 + (if 5000 < (((rd a0 x4_2).Name).length : Int) then 5000 else (((rd a0 x4_2).Name).length : Int)))) + (if 5000 < (((rd a0 x4_2).Value).length : Int) then 5000 else (((rd a0 x4_2).Value).length : Int))))))⟩] [[], [], [], [1, 2], [3], [4], [5], [6], [0, 7], [], [], [9, 10], [11], [12], [13], [14], [8, 15], [0, 16]] mixed (by kernel_rfl) ?_ ?_
      · refine TxtE.cons rfl ⟨.same _, trivial⟩ rfl (VOk.g (VOk.mv (d := (.v (.int .i64 x3_1))) rfl rfl)) ?_
        refine TxtE.cons rfl ⟨.same _, trivial⟩ rfl (VOk.g (VOk.mv (d := (L 2 e_api_Field a0)) rfl rfl)) ?_
        refine TxtE.cons rfl ⟨.same _, trivial⟩ rfl (VOk.g (VOk.mv (d := (.v (.int .i64 x4_2))) rfl rfl)) ?_
        refine TxtE.cons rfl ⟨.same _, .same _, trivial⟩ rfl (VOk.g (VOk.indexL (sz := 2) (e := e_api_Field) (xs := a0) (i := x4_2) rfl Tryd.underlying41 sz67 rfl rfl c8)) ?_
        refine TxtE.cons rfl ⟨.same _, trivial⟩ rfl (VOk.g (VOk.to (VOk.fieldFp rfl Tryd.underlying67 rfl sz9 rfl) rfl)) ?_
        refine TxtE.cons rfl ⟨.same _, trivial⟩ rfl (VOk.g (VOk.loadFp (d := (S ((rd a0 x4_2).Name))) rfl Tryd.underlying9 rfl rfl rfl)) ?_
        refine TxtE.cons rfl ⟨.same _, trivial⟩ rfl (VOk.g (VOk.lenStr (s := (rd a0 x4_2).Name) rfl Tryd.underlying9 rfl)) ?_
        refine TxtE.cons rfl ⟨.same _, trivial⟩ rfl (VOk.g (VOk.min2 (a := (((rd a0 x4_2).Name).length : Int)) (b := 5000) rfl rfl rfl)) ?_
        refine TxtE.cons rfl ⟨.same _, .same _, trivial⟩ rfl (VOk.g (VOk.arith (op := .add) (k := .i64) (a := x3_1) (b := (if 5000 < (((rd a0 x4_2).Name).length : Int) then 5000 else (((rd a0 x4_2).Name).length : Int))) rfl rfl rfl rfl)) ?_
        refine TxtE.cons rfl ⟨.same _, trivial⟩ rfl (VOk.g (VOk.mv (d := (L 2 e_api_Field a0)) rfl rfl)) ?_
        refine TxtE.cons rfl ⟨.same _, trivial⟩ rfl (VOk.g (VOk.mv (d := (.v (.int .i64 x4_2))) rfl rfl)) ?_
        refine TxtE.cons rfl ⟨.same _, .same _, trivial⟩ rfl (VOk.g (VOk.indexL (sz := 2) (e := e_api_Field) (xs := a0) (i := x4_2) rfl Tryd.underlying41 sz67 rfl rfl c9)) ?_
        refine TxtE.cons rfl ⟨.same _, trivial⟩ rfl (VOk.g (VOk.to (VOk.fieldFp rfl Tryd.underlying67 rfl sz9 rfl) rfl)) ?_
        refine TxtE.cons rfl ⟨.same _, trivial⟩ rfl (VOk.g (VOk.loadFp (d := (S ((rd a0 x4_2).Value))) rfl Tryd.underlying9 rfl rfl rfl)) ?_
        refine TxtE.cons rfl ⟨.same _, trivial⟩ rfl (VOk.g (VOk.lenStr (s := (rd a0 x4_2).Value) rfl Tryd.underlying9 rfl)) ?_
        refine TxtE.cons rfl ⟨.same _, trivial⟩ rfl (VOk.g (VOk.min2 (a := (((rd a0 x4_2).Value).length : Int)) (b := 5000) rfl rfl rfl)) ?_
        refine TxtE.cons rfl ⟨.same _, .same _, trivial⟩ rfl (VOk.g (VOk.arith (op := .add) (k := .i64) (a := (IntKind.i64.wrap (x3_1 + (if 5000 < (((rd a0 x4_2).Name).length : Int) then 5000 else (((rd a0 x4_2).Name).length : Int))))) (b := (if 5000 < (((rd a0 x4_2).Value).length : Int) then 5000 else (((rd a0 x4_2).Value).length : Int))) rfl rfl rfl rfl)) ?_
        refine TxtE.cons rfl ⟨.same _, trivial⟩ rfl (VOk.g (VOk.asg (d := (.v (.int .i64 (IntKind.i64.wrap ((IntKind.i64.wrap (x3_1 + (if 5000 < (((rd a0 x4_2).Name).length : Int) then 5000 else (((rd a0 x4_2).Name).length : Int)))) + (if 5000 < (((rd a0 x4_2).Value).length : Int) then 5000 else (((rd a0 x4_2).Value).length : Int))))))) rfl rfl)) ?_
        exact .done (.rf rfl rfl)
      refine Ok.region (σ' := ⟨[(0, (L 2 e_api_Field a0)), (3, (.v (.int .i64 (IntKind.i64.wrap ((IntKind.i64.wrap (x3_1 + (if 5000 < (((rd a0 x4_2).Name).length : Int) then 5000 else (((rd a0 x4_2).Name).length : Int)))) + (if 5000 < (((rd a0 x4_2).Value).length : Int) then 5000 else (((rd a0 x4_2).Value).length : Int))))))), (4, (.v (.int .i64 (IntKind.i64.wrap (x4_2 + 1)))))], []⟩) ?_ ?_
      · refine .cv (VOk.mv (d := (.v (.int .i64 x4_2))) rfl rfl) rfl rfl ?_
        refine .cv (VOk.arith (op := .add) (k := .i64) (a := x4_2) (b := 1) rfl rfl rfl rfl) rfl rfl ?_
        refine .cv (VOk.asg (d := (.v (.int .i64 (IntKind.i64.wrap (x4_2 + 1))))) rfl rfl) rfl rfl ?_
        exact .done (.rf rfl rfl)
      exact ⟨m5, Nat.lt_succ_self m5, (IntKind.i64.wrap ((IntKind.i64.wrap (x3_1 + (if 5000 < (((rd a0 x4_2).Name).length : Int) then 5000 else (((rd a0 x4_2).Name).length : Int)))) + (if 5000 < (((rd a0 x4_2).Value).length : Int) then 5000 else (((rd a0 x4_2).Value).length : Int)))), (IntKind.i64.wrap (x4_2 + 1)), rfl, H⟩
    · replace H := ifF H hb10
      refine Ok.exit ?_
      refine Ok.seq ?_
      refine Ok.region (σ' := ⟨[(2, (.v (.bool (decide (x3_1 < 5000)))))], []⟩) ?_ ?_
      · refine .cv (VOk.mv (d := (.v (.int .i64 x3_1))) rfl rfl) rfl rfl ?_
        refine .cv (VOk.arith (op := .lss) (k := .i64) (a := x3_1) (b := 5000) rfl rfl rfl rfl) rfl rfl ?_
        refine .cv (VOk.asg (d := (.v (.bool (decide (x3_1 < 5000))))) rfl rfl) rfl rfl ?_
        exact .done (.rf rfl rfl)
      refine Ok.ret ?_
      obtain rfl := Option.some.inj H
      exact ⟨.inl rfl, ⟨_, (.cons (.tmp rfl) .nil), rfl⟩, trivial⟩

/-! watchbill/watchbilllaw08.Few: function 8 -/
def watchbilllaw08_Few.l0 (k : Nat) (a0 : List T_api_Part) : Nat → Int → Int → Option Bool
  | 0, _, _ => none
  | m5 + 1, x3_1, x4_2 => (if ((decide (x4_2 < (a0.length : Int))) && (decide (x3_1 < 20000))) = true then (if (0 : Int) ≤ x4_2 ∧ x4_2 < (a0.length : Int) then (if (0 : Int) ≤ x4_2 ∧ x4_2 < (a0.length : Int) then ((watchbilllaw07_Few k ((rd a0 x4_2).Fields)).bind fun (t10 : Bool) => (if (!t10) = true then some false else watchbilllaw08_Few.l0 k a0 m5 (IntKind.i64.wrap (x3_1 + (if 20000 < (((rd a0 x4_2).Body).length : Int) then 20000 else (((rd a0 x4_2).Body).length : Int)))) (IntKind.i64.wrap (x4_2 + 1)))) else none) else none) else some ((decide (x3_1 < 20000)) && (decide ((a0.length : Int) ≤ 60))))
def watchbilllaw08_Few (k : Nat) (a0 : List T_api_Part) : Option Bool := watchbilllaw08_Few.l0 k a0 k (if 20000 < (a0.length : Int) then 20000 else (a0.length : Int)) 0
theorem watchbilllaw08_Few.ok {k : Nat} {a0 : List T_api_Part} {r : Bool} (H : watchbilllaw08_Few k a0 = some r) : Vx.Fn Tryd.prog 8 [(L 2 e_api_Part a0)] [] (.v (.bool r)) [] := by
  unfold watchbilllaw08_Few at H
  refine Vx.Fn.of_okR Tryd.func8 rfl (Nat.le_of_ble_eq_true rfl) ?_
  refine Ok.seq ?_
  refine Ok.region (σ' := ⟨[(0, (L 2 e_api_Part a0))], []⟩) ?_ ?_
  · refine .cv (VOk.asg (d := (.v (.bool false))) rfl rfl) rfl rfl ?_
    exact .done (.rf rfl rfl)
  refine Ok.seq ?_
  refine Ok.region (σ' := ⟨[(0, (L 2 e_api_Part a0)), (3, (.v (.int .i64 (if 20000 < (a0.length : Int) then 20000 else (a0.length : Int)))))], []⟩) ?_ ?_
  · refine .cv (VOk.mv (d := (L 2 e_api_Part a0)) rfl rfl) rfl rfl ?_
    refine .cv (VOk.lenL (e := e_api_Part) (xs := a0) rfl Tryd.underlying22 rfl) rfl rfl ?_
    refine .cv (VOk.min2 (a := (a0.length : Int)) (b := 20000) rfl rfl rfl) rfl rfl ?_
    refine .cv (VOk.asg (d := (.v (.int .i64 (if 20000 < (a0.length : Int) then 20000 else (a0.length : Int))))) rfl rfl) rfl rfl ?_
    exact .done (.rf rfl rfl)
  refine Ok.seq ?_
  refine Ok.seq ?_
  refine Ok.region (σ' := ⟨[(0, (L 2 e_api_Part a0)), (3, (.v (.int .i64 (if 20000 < (a0.length : Int) then 20000 else (a0.length : Int))))), (4, (.v (.int .i64 0)))], []⟩) ?_ ?_
  · refine .cv (VOk.asg (d := (.v (.int .i64 0))) rfl rfl) rfl rfl ?_
    exact .done (.rf rfl rfl)
  refine Ok.block ?_
  refine Ok.le (σ' := ⟨[(0, (L 2 e_api_Part a0)), (3, (.v (.int .i64 (if 20000 < (a0.length : Int) then 20000 else (a0.length : Int))))), (4, (.v (.int .i64 0)))], []⟩) (.rf rfl rfl) ?_
  refine Ok.loop (fun m5 σ => ∃ (x3_1 : Int) (x4_2 : Int), σ = ⟨[(0, (L 2 e_api_Part a0)), (3, (.v (.int .i64 x3_1))), (4, (.v (.int .i64 x4_2)))], []⟩ ∧ watchbilllaw08_Few.l0 k a0 m5 x3_1 x4_2 = some r) k ⟨(if 20000 < (a0.length : Int) then 20000 else (a0.length : Int)), 0, rfl, H⟩ ?_
  rintro m5 σ ⟨x3_1, x4_2, rfl, H⟩
  cases m5 with
  | zero => exact absurd H (by simp [watchbilllaw08_Few.l0])
  | succ m5 =>
    unfold watchbilllaw08_Few.l0 at H
    refine Ok.seq ?_
    refine Ok.seq ?_
    refine Ok.region (σ' := ⟨[(0, (L 2 e_api_Part a0)), (3, (.v (.int .i64 x3_1))), (4, (.v (.int .i64 x4_2))), (15, (.v (.bool ((decide (x4_2 < (a0.length : Int))) && (decide (x3_1 < 20000))))))], []⟩) ?_ ?_
    · refine .cv (VOk.mv (d := (.v (.int .i64 x4_2))) rfl rfl) rfl rfl ?_
      refine .cv (VOk.mv (d := (L 2 e_api_Part a0)) rfl rfl) rfl rfl ?_
      refine .cv (VOk.lenL (e := e_api_Part) (xs := a0) rfl Tryd.underlying22 rfl) rfl rfl ?_
      refine .cv (VOk.arith (op := .lss) (k := .i64) (a := x4_2) (b := (a0.length : Int)) rfl rfl rfl rfl) rfl rfl ?_
      refine .cv (VOk.mv (d := (.v (.bool (decide (x4_2 < (a0.length : Int)))))) rfl rfl) rfl rfl ?_
      refine OpsOk.consI rfl rfl rfl (.one rfl) rfl (fun hw6 => (VOk.g (VOk.mv (d := (.v (.int .i64 x3_1))) rfl rfl))) ?_
      refine OpsOk.consI rfl rfl rfl (.one rfl) rfl (fun hw6 => (GOk.fr (fr' := [(13, (.v (.int .i64 x3_1)))]) ⟨DLe.of_eq (cT hw6).symm, trivial⟩ (VOk.g (VOk.arith (op := .lss) (k := .i64) (a := x3_1) (b := 20000) rfl rfl rfl rfl)))) ?_
      refine .cv (VOk.to (VOk.pickI (b := (decide (x4_2 < (a0.length : Int)))) (p := (decide (x3_1 < 20000))) (q := false) rfl rfl (fun hp7 => (cT (t_beq hp7))) (fun hp7 => rfl)) (pickAnd (decide (x4_2 < (a0.length : Int))) (decide (x3_1 < 20000)))) rfl rfl ?_
      exact .done (.rf rfl rfl)
    refine Ok.test (b := ((decide (x4_2 < (a0.length : Int))) && (decide (x3_1 < 20000)))) rfl (fun hb15 => ?_) (fun hb15 => ?_)
    · replace H := ifT H hb15
      refine Ok.skip ?_
      refine Ok.seq ?_
      refine Ok.block ?_
      refine Ok.seq ?_
      obtain ⟨c8, H⟩ := assertE H
      refine Ok.region (σ' := ⟨[(0, (L 2 e_api_Part a0)), (3, (.v (.int .i64 (IntKind.i64.wrap (x3_1 + (if 20000 < (((rd a0 x4_2).Body).length : Int) then 20000 else (((rd a0 x4_2).Body).length : Int))))))), (4, (.v (.int .i64 x4_2)))], []⟩) ?_ ?_
      · refine .cv (VOk.mv (d := (.v (.int .i64 x3_1))) rfl rfl) rfl rfl ?_
        refine .cv (VOk.mv (d := (L 2 e_api_Part a0)) rfl rfl) rfl rfl ?_
        refine .cv (VOk.mv (d := (.v (.int .i64 x4_2))) rfl rfl) rfl rfl ?_
        refine .cv (VOk.indexL (sz := 2) (e := e_api_Part) (xs := a0) (i := x4_2) rfl Tryd.underlying22 sz43 rfl rfl c8) rfl rfl ?_
        refine .cv (VOk.to (VOk.fieldFp rfl Tryd.underlying43 rfl sz9 rfl) rfl) rfl rfl ?_
        refine .cv (VOk.loadFp (d := (S ((rd a0 x4_2).Body))) rfl Tryd.underlying9 rfl rfl rfl) rfl rfl ?_
        refine .cv (VOk.lenStr (s := (rd a0 x4_2).Body) rfl Tryd.underlying9 rfl) rfl rfl ?_
        refine .cv (VOk.min2 (a := (((rd a0 x4_2).Body).length : Int)) (b := 20000) rfl rfl rfl) rfl rfl ?_
        refine .cv (VOk.arith (op := .add) (k := .i64) (a := x3_1) (b := (if 20000 < (((rd a0 x4_2).Body).length : Int) then 20000 else (((rd a0 x4_2).Body).length : Int))) rfl rfl rfl rfl) rfl rfl ?_
        refine .cv (VOk.asg (d := (.v (.int .i64 (IntKind.i64.wrap (x3_1 + (if 20000 < (((rd a0 x4_2).Body).length : Int) then 20000 else (((rd a0 x4_2).Body).length : Int))))))) rfl rfl) rfl rfl ?_
        exact .done (.rf rfl rfl)
      refine Ok.seq ?_
      obtain ⟨c9, H⟩ := assertE H
      obtain ⟨t10, h11, H⟩ := bindE H
      refine Ok.region (σ' := ⟨[(0, (L 2 e_api_Part a0)), (3, (.v (.int .i64 (IntKind.i64.wrap (x3_1 + (if 20000 < (((rd a0 x4_2).Body).length : Int) then 20000 else (((rd a0 x4_2).Body).length : Int))))))), (4, (.v (.int .i64 x4_2))), (33, (.v (.bool (!t10))))], []⟩) ?_ ?_
      · refine .cv (VOk.mv (d := (L 2 e_api_Part a0)) rfl rfl) rfl rfl ?_
        refine .cv (VOk.mv (d := (.v (.int .i64 x4_2))) rfl rfl) rfl rfl ?_
        refine .cv (VOk.indexL (sz := 2) (e := e_api_Part) (xs := a0) (i := x4_2) rfl Tryd.underlying22 sz43 rfl rfl c9) rfl rfl ?_
        refine .cv (VOk.to (VOk.fieldFp rfl Tryd.underlying43 rfl sz41 rfl) rfl) rfl rfl ?_
        refine .cv (VOk.loadFp (d := (L 2 e_api_Field ((rd a0 x4_2).Fields))) rfl Tryd.underlying41 rfl rfl rfl) rfl rfl ?_
        refine .cg (GOk.call rfl rfl cl18 rfl (watchbilllaw07_Few.ok h11) rfl) rfl rfl ?_
        refine .cv (VOk.not (b := t10) rfl rfl) rfl rfl ?_
        exact .done (.rf rfl rfl)
      refine Ok.test (b := (!t10)) rfl (fun hb12 => ?_) (fun hb12 => ?_)
      · replace H := ifT H hb12
        refine Ok.seq ?_
        refine Ok.region (σ' := ⟨[(2, (.v (.bool false)))], []⟩) ?_ ?_
        · refine .cv (VOk.asg (d := (.v (.bool false))) rfl rfl) rfl rfl ?_
          exact .done (.rf rfl rfl)
        refine Ok.ret ?_
        obtain rfl := Option.some.inj H
        exact ⟨.inl rfl, ⟨_, (.cons (.tmp rfl) .nil), rfl⟩, trivial⟩
      · replace H := ifF H hb12
        refine Ok.skip ?_
        refine Ok.region (σ' := ⟨[(0, (L 2 e_api_Part a0)), (3, (.v (.int .i64 (IntKind.i64.wrap (x3_1 + (if 20000 < (((rd a0 x4_2).Body).length : Int) then 20000 else (((rd a0 x4_2).Body).length : Int))))))), (4, (.v (.int .i64 (IntKind.i64.wrap (x4_2 + 1)))))], []⟩) ?_ ?_
        · refine .cv (VOk.mv (d := (.v (.int .i64 x4_2))) rfl rfl) rfl rfl ?_
          refine .cv (VOk.arith (op := .add) (k := .i64) (a := x4_2) (b := 1) rfl rfl rfl rfl) rfl rfl ?_
          refine .cv (VOk.asg (d := (.v (.int .i64 (IntKind.i64.wrap (x4_2 + 1))))) rfl rfl) rfl rfl ?_
          exact .done (.rf rfl rfl)
        exact ⟨m5, Nat.lt_succ_self m5, (IntKind.i64.wrap (x3_1 + (if 20000 < (((rd a0 x4_2).Body).length : Int) then 20000 else (((rd a0 x4_2).Body).length : Int)))), (IntKind.i64.wrap (x4_2 + 1)), rfl, H⟩
    · replace H := ifF H hb15
      refine Ok.exit ?_
      refine Ok.seq ?_
      refine Ok.region (σ' := ⟨[(2, (.v (.bool ((decide (x3_1 < 20000)) && (decide ((a0.length : Int) ≤ 60))))))], []⟩) ?_ ?_
      · refine .cv (VOk.mv (d := (.v (.int .i64 x3_1))) rfl rfl) rfl rfl ?_
        refine .cv (VOk.arith (op := .lss) (k := .i64) (a := x3_1) (b := 20000) rfl rfl rfl rfl) rfl rfl ?_
        refine .cv (VOk.mv (d := (.v (.bool (decide (x3_1 < 20000))))) rfl rfl) rfl rfl ?_
        refine OpsOk.consI rfl rfl rfl (.one rfl) rfl (fun hw13 => (VOk.g (VOk.mv (d := (L 2 e_api_Part a0)) rfl rfl))) ?_
        refine OpsOk.consI rfl rfl rfl (.one rfl) rfl (fun hw13 => (GOk.fr (fr' := [(37, (L 2 e_api_Part a0))]) ⟨DLe.of_eq (cT hw13).symm, trivial⟩ (VOk.g (VOk.lenL (e := e_api_Part) (xs := a0) rfl Tryd.underlying22 rfl)))) ?_
        refine OpsOk.consI rfl rfl rfl (.one rfl) rfl (fun hw13 => (GOk.fr (fr' := [(38, (.v (.int .i64 (a0.length : Int))))]) ⟨DLe.of_eq (cT hw13).symm, trivial⟩ (VOk.g (VOk.arith (op := .leq) (k := .i64) (a := (a0.length : Int)) (b := 60) rfl rfl rfl rfl)))) ?_
        refine .cv (VOk.to (VOk.pickI (b := (decide (x3_1 < 20000))) (p := (decide ((a0.length : Int) ≤ 60))) (q := false) rfl rfl (fun hp14 => (cT (t_beq hp14))) (fun hp14 => rfl)) (pickAnd (decide (x3_1 < 20000)) (decide ((a0.length : Int) ≤ 60)))) rfl rfl ?_
        refine .cv (VOk.asg (d := (.v (.bool ((decide (x3_1 < 20000)) && (decide ((a0.length : Int) ≤ 60)))))) rfl rfl) rfl rfl ?_
        exact .done (.rf rfl rfl)
      refine Ok.ret ?_
      obtain rfl := Option.some.inj H
      exact ⟨.inl rfl, ⟨_, (.cons (.tmp rfl) .nil), rfl⟩, trivial⟩

/-! watchbill/watchbillref08.May: function 16 -/
def watchbillref08_May.l1 (k : Nat) (c0 : Int → Option Bool) (a0 : Str) (x3_1 : Int) : Nat → Bool → Int → Option Bool
  | 0, _, _ => none
  | m19 + 1, x5_15, x6_16 => (if (decide (x6_16 < 12)) = true then (if ((x5_15 == false) = true → (0 : Int) ≤ x6_16 ∧ x6_16 < (([39, 40, 41, 43, 95, 44, 45, 46, 47, 58, 61, 63] : Str).length : Int)) then watchbillref08_May.l1 k c0 a0 x3_1 m19 (x5_15 || ((bt ([39, 40, 41, 43, 95, 44, 45, 46, 47, 58, 61, 63] : Str) x6_16) == (bt a0 x3_1))) (IntKind.i64.wrap (x6_16 + 1)) else none) else (if (!x5_15) = true then some false else c0 (IntKind.i64.wrap (x3_1 + 1))))
def watchbillref08_May.l0 (k : Nat) (a0 : Str) : Nat → Int → Option Bool
  | 0, _ => none
  | m3 + 1, x3_1 => (if (decide (x3_1 < (a0.length : Int))) = true then (if (0 : Int) ≤ x3_1 ∧ x3_1 < (a0.length : Int) then watchbillref08_May.l1 k (watchbillref08_May.l0 k a0 m3) a0 x3_1 k ((((decide ((bt a0 x3_1) ≥ 48)) && (decide ((bt a0 x3_1) ≤ 57))) || ((decide ((bt a0 x3_1) ≥ 65)) && (decide ((bt a0 x3_1) ≤ 90)))) || ((decide ((bt a0 x3_1) ≥ 97)) && (decide ((bt a0 x3_1) ≤ 122)))) 0 else none) else some ((decide ((a0.length : Int) ≥ 1)) && (decide ((a0.length : Int) ≤ 70))))
def watchbillref08_May (k : Nat) (a0 : Str) : Option Bool := watchbillref08_May.l0 k a0 k 0
theorem watchbillref08_May.ok {k : Nat} {a0 : Str} {r : Bool} (H : watchbillref08_May k a0 = some r) : Vx.Fn Tryd.prog 16 [(S a0)] [] (.v (.bool r)) [] := by
  unfold watchbillref08_May at H
  refine Vx.Fn.of_okR Tryd.func16 rfl (Nat.le_of_ble_eq_true rfl) ?_
  refine Ok.seq ?_
  refine Ok.region (σ' := ⟨[(0, (S a0))], []⟩) ?_ ?_
  · refine .cv (VOk.asg (d := (.v (.bool false))) rfl rfl) rfl rfl ?_
    exact .done (.rf rfl rfl)
  refine Ok.seq ?_
  refine Ok.seq ?_
  refine Ok.region (σ' := ⟨[(0, (S a0)), (3, (.v (.int .i64 0)))], []⟩) ?_ ?_
  · refine .cv (VOk.asg (d := (.v (.int .i64 0))) rfl rfl) rfl rfl ?_
    exact .done (.rf rfl rfl)
  refine Ok.block ?_
  refine Ok.le (σ' := ⟨[(0, (S a0)), (3, (.v (.int .i64 0)))], []⟩) (.rf rfl rfl) ?_
  refine Ok.loop (fun m3 σ => ∃ (x3_1 : Int), σ = ⟨[(0, (S a0)), (3, (.v (.int .i64 x3_1)))], []⟩ ∧ watchbillref08_May.l0 k a0 m3 x3_1 = some r) k ⟨0, rfl, H⟩ ?_
  rintro m3 σ ⟨x3_1, rfl, H⟩
  cases m3 with
  | zero => exact absurd H (by simp [watchbillref08_May.l0])
  | succ m3 =>
    unfold watchbillref08_May.l0 at H
    refine Ok.seq ?_
    refine Ok.seq ?_
    refine Ok.region (σ' := ⟨[(0, (S a0)), (3, (.v (.int .i64 x3_1))), (10, (.v (.bool (decide (x3_1 < (a0.length : Int))))))], []⟩) ?_ ?_
    · refine .cv (VOk.mv (d := (.v (.int .i64 x3_1))) rfl rfl) rfl rfl ?_
      refine .cv (VOk.mv (d := (S a0)) rfl rfl) rfl rfl ?_
      refine .cv (VOk.lenStr (s := a0) rfl Tryd.underlying9 rfl) rfl rfl ?_
      refine .cv (VOk.arith (op := .lss) (k := .i64) (a := x3_1) (b := (a0.length : Int)) rfl rfl rfl rfl) rfl rfl ?_
      exact .done (.rf rfl rfl)
    refine Ok.test (b := (decide (x3_1 < (a0.length : Int)))) rfl (fun hb27 => ?_) (fun hb27 => ?_)
    · replace H := ifT H hb27
      refine Ok.skip ?_
      refine Ok.seq ?_
      refine Ok.block ?_
      refine Ok.seq ?_
      obtain ⟨c4, H⟩ := assertE H
      refine Ok.region (σ' := ⟨[(0, (S a0)), (3, (.v (.int .i64 x3_1))), (4, (.v (.int .u8 (bt a0 x3_1))))], []⟩) ?_ ?_
      · refine .cv (VOk.mv (d := (S a0)) rfl rfl) rfl rfl ?_
        refine .cv (VOk.mv (d := (.v (.int .i64 x3_1))) rfl rfl) rfl rfl ?_
        refine .cv (VOk.indexStr (s := a0) (i := x3_1) rfl Tryd.underlying9 rfl rfl c4) rfl rfl ?_
        refine .cv (VOk.asg (d := (.v (.int .u8 (bt a0 x3_1)))) rfl rfl) rfl rfl ?_
        exact .done (.rf rfl rfl)
      refine Ok.seq ?_
      refine Ok.region (σ' := ⟨[(0, (S a0)), (3, (.v (.int .i64 x3_1))), (4, (.v (.int .u8 (bt a0 x3_1)))), (5, (.v (.bool ((((decide ((bt a0 x3_1) ≥ 48)) && (decide ((bt a0 x3_1) ≤ 57))) || ((decide ((bt a0 x3_1) ≥ 65)) && (decide ((bt a0 x3_1) ≤ 90)))) || ((decide ((bt a0 x3_1) ≥ 97)) && (decide ((bt a0 x3_1) ≤ 122)))))))], []⟩) ?_ ?_
      · refine .cv (VOk.mv (d := (.v (.int .u8 (bt a0 x3_1)))) rfl rfl) rfl rfl ?_
        refine .cv (VOk.arith (op := .geq) (k := .u8) (a := (bt a0 x3_1)) (b := 48) rfl rfl rfl rfl) rfl rfl ?_
        refine .cv (VOk.mv (d := (.v (.bool (decide ((bt a0 x3_1) ≥ 48))))) rfl rfl) rfl rfl ?_
        refine OpsOk.consI rfl rfl rfl (.one rfl) rfl (fun hw5 => (VOk.g (VOk.mv (d := (.v (.int .u8 (bt a0 x3_1)))) rfl rfl))) ?_
        refine OpsOk.consI rfl rfl rfl (.one rfl) rfl (fun hw5 => (GOk.fr (fr' := [(19, (.v (.int .u8 (bt a0 x3_1))))]) ⟨DLe.of_eq (cT hw5).symm, trivial⟩ (VOk.g (VOk.arith (op := .leq) (k := .u8) (a := (bt a0 x3_1)) (b := 57) rfl rfl rfl rfl)))) ?_
        refine .cv (VOk.to (VOk.pickI (b := (decide ((bt a0 x3_1) ≥ 48))) (p := (decide ((bt a0 x3_1) ≤ 57))) (q := false) rfl rfl (fun hp6 => (cT (t_beq hp6))) (fun hp6 => rfl)) (pickAnd (decide ((bt a0 x3_1) ≥ 48)) (decide ((bt a0 x3_1) ≤ 57)))) rfl rfl ?_
        refine .cv (VOk.mv (d := (.v (.bool ((decide ((bt a0 x3_1) ≥ 48)) && (decide ((bt a0 x3_1) ≤ 57)))))) rfl rfl) rfl rfl ?_
        refine OpsOk.consI rfl rfl rfl (.one rfl) rfl (fun hw7 => (VOk.g (VOk.mv (d := (.v (.int .u8 (bt a0 x3_1)))) rfl rfl))) ?_
        refine OpsOk.consI rfl rfl rfl (.one rfl) rfl (fun hw7 => (GOk.fr (fr' := [(23, (.v (.int .u8 (bt a0 x3_1))))]) ⟨DLe.of_eq (cT hw7).symm, trivial⟩ (VOk.g (VOk.arith (op := .geq) (k := .u8) (a := (bt a0 x3_1)) (b := 65) rfl rfl rfl rfl)))) ?_
        refine OpsOk.consI rfl rfl rfl (.one rfl) rfl (fun hw7 => (GOk.fr (fr' := [(24, (.v (.bool (decide ((bt a0 x3_1) ≥ 65)))))]) ⟨DLe.of_eq (cT hw7).symm, trivial⟩ (VOk.g (VOk.mv (d := (.v (.bool (decide ((bt a0 x3_1) ≥ 65))))) rfl rfl)))) ?_
        refine OpsOk.consI rfl rfl rfl (.two rfl) rfl (fun hw8 => (VOk.g (VOk.mv (d := (.v (.int .u8 (bt a0 x3_1)))) rfl rfl))) ?_
        refine OpsOk.consI rfl rfl rfl (.two rfl) rfl (fun hw8 => (GOk.fr (fr' := [(26, (.v (.int .u8 (bt a0 x3_1))))]) ⟨DLe.of_eq (cT hw8).symm, trivial⟩ (VOk.g (VOk.arith (op := .leq) (k := .u8) (a := (bt a0 x3_1)) (b := 90) rfl rfl rfl rfl)))) ?_
        refine OpsOk.consI rfl rfl rfl (.one rfl) rfl (fun hw7 => (VOk.g (VOk.to (VOk.pickI (b := (decide ((bt a0 x3_1) ≥ 65))) (p := (decide ((bt a0 x3_1) ≤ 90))) (q := false) rfl (cT hw7) (fun hp9 => (cT (and_i hw7 (t_beq hp9)))) (fun hp9 => rfl)) (pickAnd (decide ((bt a0 x3_1) ≥ 65)) (decide ((bt a0 x3_1) ≤ 90)))))) ?_
        refine .cv (VOk.to (VOk.pickI (b := ((decide ((bt a0 x3_1) ≥ 48)) && (decide ((bt a0 x3_1) ≤ 57)))) (p := true) (q := ((decide ((bt a0 x3_1) ≥ 65)) && (decide ((bt a0 x3_1) ≤ 90)))) rfl rfl (fun hp10 => rfl) (fun hp10 => (cT (f_beq hp10)))) (pickOr ((decide ((bt a0 x3_1) ≥ 48)) && (decide ((bt a0 x3_1) ≤ 57))) ((decide ((bt a0 x3_1) ≥ 65)) && (decide ((bt a0 x3_1) ≤ 90))))) rfl rfl ?_
        refine .cv (VOk.mv (d := (.v (.bool (((decide ((bt a0 x3_1) ≥ 48)) && (decide ((bt a0 x3_1) ≤ 57))) || ((decide ((bt a0 x3_1) ≥ 65)) && (decide ((bt a0 x3_1) ≤ 90))))))) rfl rfl) rfl rfl ?_
        refine OpsOk.consI rfl rfl rfl (.one rfl) rfl (fun hw11 => (VOk.g (VOk.mv (d := (.v (.int .u8 (bt a0 x3_1)))) rfl rfl))) ?_
        refine OpsOk.consI rfl rfl rfl (.one rfl) rfl (fun hw11 => (GOk.fr (fr' := [(31, (.v (.int .u8 (bt a0 x3_1))))]) ⟨DLe.of_eq (cT hw11).symm, trivial⟩ (VOk.g (VOk.arith (op := .geq) (k := .u8) (a := (bt a0 x3_1)) (b := 97) rfl rfl rfl rfl)))) ?_
        refine OpsOk.consI rfl rfl rfl (.one rfl) rfl (fun hw11 => (GOk.fr (fr' := [(32, (.v (.bool (decide ((bt a0 x3_1) ≥ 97)))))]) ⟨DLe.of_eq (cT hw11).symm, trivial⟩ (VOk.g (VOk.mv (d := (.v (.bool (decide ((bt a0 x3_1) ≥ 97))))) rfl rfl)))) ?_
        refine OpsOk.consI rfl rfl rfl (.two rfl) rfl (fun hw12 => (VOk.g (VOk.mv (d := (.v (.int .u8 (bt a0 x3_1)))) rfl rfl))) ?_
        refine OpsOk.consI rfl rfl rfl (.two rfl) rfl (fun hw12 => (GOk.fr (fr' := [(34, (.v (.int .u8 (bt a0 x3_1))))]) ⟨DLe.of_eq (cT hw12).symm, trivial⟩ (VOk.g (VOk.arith (op := .leq) (k := .u8) (a := (bt a0 x3_1)) (b := 122) rfl rfl rfl rfl)))) ?_
        refine OpsOk.consI rfl rfl rfl (.one rfl) rfl (fun hw11 => (VOk.g (VOk.to (VOk.pickI (b := (decide ((bt a0 x3_1) ≥ 97))) (p := (decide ((bt a0 x3_1) ≤ 122))) (q := false) rfl (cT hw11) (fun hp13 => (cT (and_i hw11 (t_beq hp13)))) (fun hp13 => rfl)) (pickAnd (decide ((bt a0 x3_1) ≥ 97)) (decide ((bt a0 x3_1) ≤ 122)))))) ?_
        refine .cv (VOk.to (VOk.pickI (b := (((decide ((bt a0 x3_1) ≥ 48)) && (decide ((bt a0 x3_1) ≤ 57))) || ((decide ((bt a0 x3_1) ≥ 65)) && (decide ((bt a0 x3_1) ≤ 90))))) (p := true) (q := ((decide ((bt a0 x3_1) ≥ 97)) && (decide ((bt a0 x3_1) ≤ 122)))) rfl rfl (fun hp14 => rfl) (fun hp14 => (cT (f_beq hp14)))) (pickOr (((decide ((bt a0 x3_1) ≥ 48)) && (decide ((bt a0 x3_1) ≤ 57))) || ((decide ((bt a0 x3_1) ≥ 65)) && (decide ((bt a0 x3_1) ≤ 90)))) ((decide ((bt a0 x3_1) ≥ 97)) && (decide ((bt a0 x3_1) ≤ 122))))) rfl rfl ?_
        refine .cv (VOk.asg (d := (.v (.bool ((((decide ((bt a0 x3_1) ≥ 48)) && (decide ((bt a0 x3_1) ≤ 57))) || ((decide ((bt a0 x3_1) ≥ 65)) && (decide ((bt a0 x3_1) ≤ 90)))) || ((decide ((bt a0 x3_1) ≥ 97)) && (decide ((bt a0 x3_1) ≤ 122))))))) rfl rfl) rfl rfl ?_
        exact .done (.rf rfl rfl)
      refine Ok.seq ?_
      refine Ok.seq ?_
      refine Ok.region (σ' := ⟨[(0, (S a0)), (3, (.v (.int .i64 x3_1))), (4, (.v (.int .u8 (bt a0 x3_1)))), (5, (.v (.bool ((((decide ((bt a0 x3_1) ≥ 48)) && (decide ((bt a0 x3_1) ≤ 57))) || ((decide ((bt a0 x3_1) ≥ 65)) && (decide ((bt a0 x3_1) ≤ 90)))) || ((decide ((bt a0 x3_1) ≥ 97)) && (decide ((bt a0 x3_1) ≤ 122))))))), (6, (.v (.int .i64 0)))], []⟩) ?_ ?_
      · refine .cv (VOk.asg (d := (.v (.int .i64 0))) rfl rfl) rfl rfl ?_
        exact .done (.rf rfl rfl)
      refine Ok.block ?_
      refine Ok.le (σ' := ⟨[(0, (S a0)), (3, (.v (.int .i64 x3_1))), (4, (.v (.int .u8 (bt a0 x3_1)))), (5, (.v (.bool ((((decide ((bt a0 x3_1) ≥ 48)) && (decide ((bt a0 x3_1) ≤ 57))) || ((decide ((bt a0 x3_1) ≥ 65)) && (decide ((bt a0 x3_1) ≤ 90)))) || ((decide ((bt a0 x3_1) ≥ 97)) && (decide ((bt a0 x3_1) ≤ 122))))))), (6, (.v (.int .i64 0)))], []⟩) (.rf rfl rfl) ?_
      refine Ok.loop (fun m19 σ => ∃ (x5_15 : Bool) (x6_16 : Int), σ = ⟨[(0, (S a0)), (3, (.v (.int .i64 x3_1))), (4, (.v (.int .u8 (bt a0 x3_1)))), (5, (.v (.bool x5_15))), (6, (.v (.int .i64 x6_16)))], []⟩ ∧ watchbillref08_May.l1 k (watchbillref08_May.l0 k a0 m3) a0 x3_1 m19 x5_15 x6_16 = some r) k ⟨((((decide ((bt a0 x3_1) ≥ 48)) && (decide ((bt a0 x3_1) ≤ 57))) || ((decide ((bt a0 x3_1) ≥ 65)) && (decide ((bt a0 x3_1) ≤ 90)))) || ((decide ((bt a0 x3_1) ≥ 97)) && (decide ((bt a0 x3_1) ≤ 122)))), 0, rfl, H⟩ ?_
      rintro m19 σ ⟨x5_15, x6_16, rfl, H⟩
      cases m19 with
      | zero => exact absurd H (by simp [watchbillref08_May.l1])
      | succ m19 =>
        unfold watchbillref08_May.l1 at H
        refine Ok.seq ?_
        refine Ok.seq ?_
        refine Ok.region (σ' := ⟨[(0, (S a0)), (3, (.v (.int .i64 x3_1))), (4, (.v (.int .u8 (bt a0 x3_1)))), (5, (.v (.bool x5_15))), (6, (.v (.int .i64 x6_16))), (39, (.v (.bool (decide (x6_16 < 12)))))], []⟩) ?_ ?_
        · refine .cv (VOk.mv (d := (.v (.int .i64 x6_16))) rfl rfl) rfl rfl ?_
          refine .cv (VOk.arith (op := .lss) (k := .i64) (a := x6_16) (b := 12) rfl rfl rfl rfl) rfl rfl ?_
          exact .done (.rf rfl rfl)
        refine Ok.test (b := (decide (x6_16 < 12))) rfl (fun hb24 => ?_) (fun hb24 => ?_)
        · replace H := ifT H hb24
          refine Ok.skip ?_
          refine Ok.seq ?_
          refine Ok.block ?_
          obtain ⟨c21, H⟩ := assertE H
          refine Ok.region (σ' := ⟨[(0, (S a0)), (3, (.v (.int .i64 x3_1))), (4, (.v (.int .u8 (bt a0 x3_1)))), (5, (.v (.bool (x5_15 || ((bt ([39, 40, 41, 43, 95, 44, 45, 46, 47, 58, 61, 63] : Str) x6_16) == (bt a0 x3_1)))))), (6, (.v (.int .i64 x6_16)))], []⟩) ?_ ?_
          · refine .cv (VOk.mv (d := (.v (.bool x5_15))) rfl rfl) rfl rfl ?_
            refine .cv (VOk.mv (d := (.v (.bool x5_15))) rfl rfl) rfl rfl ?_
            refine OpsOk.consI rfl rfl rfl (.one rfl) rfl (fun hw20 => (VOk.g (VOk.mv (d := (.v (.int .i64 x6_16))) rfl rfl))) ?_
            refine OpsOk.consI rfl rfl rfl (.one rfl) rfl (fun hw20 => (GOk.fr (fr' := [(44, (.v (.int .i64 x6_16)))]) ⟨DLe.of_eq (cT hw20).symm, trivial⟩ (VOk.g (VOk.indexStr (s := ([39, 40, 41, 43, 95, 44, 45, 46, 47, 58, 61, 63] : Str)) (i := x6_16) rfl Tryd.underlying9 rfl rfl (c21 hw20))))) ?_
            refine OpsOk.consI rfl rfl rfl (.one rfl) rfl (fun hw20 => (VOk.g (VOk.mv (d := (.v (.int .u8 (bt a0 x3_1)))) rfl rfl))) ?_
            refine OpsOk.consI rfl rfl rfl (.one rfl) rfl (fun hw20 => (GOk.fr (fr' := [(45, (.v (.int .u8 (bt ([39, 40, 41, 43, 95, 44, 45, 46, 47, 58, 61, 63] : Str) x6_16)))), (46, (.v (.int .u8 (bt a0 x3_1))))]) ⟨DLe.of_eq (cT hw20).symm, DLe.of_eq (cT hw20).symm, trivial⟩ (VOk.g (VOk.arith (op := .eql) (k := .u8) (a := (bt ([39, 40, 41, 43, 95, 44, 45, 46, 47, 58, 61, 63] : Str) x6_16)) (b := (bt a0 x3_1)) rfl rfl rfl rfl)))) ?_
            refine .cv (VOk.to (VOk.pickI (b := x5_15) (p := true) (q := ((bt ([39, 40, 41, 43, 95, 44, 45, 46, 47, 58, 61, 63] : Str) x6_16) == (bt a0 x3_1))) rfl rfl (fun hp22 => rfl) (fun hp22 => (cT (f_beq hp22)))) (pickOr x5_15 ((bt ([39, 40, 41, 43, 95, 44, 45, 46, 47, 58, 61, 63] : Str) x6_16) == (bt a0 x3_1)))) rfl rfl ?_
            refine .cv (VOk.asg (d := (.v (.bool (x5_15 || ((bt ([39, 40, 41, 43, 95, 44, 45, 46, 47, 58, 61, 63] : Str) x6_16) == (bt a0 x3_1)))))) rfl rfl) rfl rfl ?_
            exact .done (.rf rfl rfl)
          refine Ok.region (σ' := ⟨[(0, (S a0)), (3, (.v (.int .i64 x3_1))), (4, (.v (.int .u8 (bt a0 x3_1)))), (5, (.v (.bool (x5_15 || ((bt ([39, 40, 41, 43, 95, 44, 45, 46, 47, 58, 61, 63] : Str) x6_16) == (bt a0 x3_1)))))), (6, (.v (.int .i64 (IntKind.i64.wrap (x6_16 + 1)))))], []⟩) ?_ ?_
          · refine .cv (VOk.mv (d := (.v (.int .i64 x6_16))) rfl rfl) rfl rfl ?_
            refine .cv (VOk.arith (op := .add) (k := .i64) (a := x6_16) (b := 1) rfl rfl rfl rfl) rfl rfl ?_
            refine .cv (VOk.asg (d := (.v (.int .i64 (IntKind.i64.wrap (x6_16 + 1))))) rfl rfl) rfl rfl ?_
            exact .done (.rf rfl rfl)
          exact ⟨m19, Nat.lt_succ_self m19, (x5_15 || ((bt ([39, 40, 41, 43, 95, 44, 45, 46, 47, 58, 61, 63] : Str) x6_16) == (bt a0 x3_1))), (IntKind.i64.wrap (x6_16 + 1)), rfl, H⟩
        · replace H := ifF H hb24
          refine Ok.exit ?_
          refine Ok.seq ?_
          refine Ok.region (σ' := ⟨[(0, (S a0)), (3, (.v (.int .i64 x3_1))), (50, (.v (.bool (!x5_15))))], []⟩) ?_ ?_
          · refine .cv (VOk.mv (d := (.v (.bool x5_15))) rfl rfl) rfl rfl ?_
            refine .cv (VOk.not (b := x5_15) rfl rfl) rfl rfl ?_
            exact .done (.rf rfl rfl)
          refine Ok.test (b := (!x5_15)) rfl (fun hb23 => ?_) (fun hb23 => ?_)
          · replace H := ifT H hb23
            refine Ok.seq ?_
            refine Ok.region (σ' := ⟨[(2, (.v (.bool false)))], []⟩) ?_ ?_
            · refine .cv (VOk.asg (d := (.v (.bool false))) rfl rfl) rfl rfl ?_
              exact .done (.rf rfl rfl)
            refine Ok.ret ?_
            obtain rfl := Option.some.inj H
            exact ⟨.inl rfl, ⟨_, (.cons (.tmp rfl) .nil), rfl⟩, trivial⟩
          · replace H := ifF H hb23
            refine Ok.skip ?_
            refine Ok.region (σ' := ⟨[(0, (S a0)), (3, (.v (.int .i64 (IntKind.i64.wrap (x3_1 + 1)))))], []⟩) ?_ ?_
            · refine .cv (VOk.mv (d := (.v (.int .i64 x3_1))) rfl rfl) rfl rfl ?_
              refine .cv (VOk.arith (op := .add) (k := .i64) (a := x3_1) (b := 1) rfl rfl rfl rfl) rfl rfl ?_
              refine .cv (VOk.asg (d := (.v (.int .i64 (IntKind.i64.wrap (x3_1 + 1))))) rfl rfl) rfl rfl ?_
              exact .done (.rf rfl rfl)
            exact ⟨m3, Nat.lt_succ_self m3, (IntKind.i64.wrap (x3_1 + 1)), rfl, H⟩
    · replace H := ifF H hb27
      refine Ok.exit ?_
      refine Ok.seq ?_
      refine Ok.region (σ' := ⟨[(2, (.v (.bool ((decide ((a0.length : Int) ≥ 1)) && (decide ((a0.length : Int) ≤ 70))))))], []⟩) ?_ ?_
      · refine .cv (VOk.mv (d := (S a0)) rfl rfl) rfl rfl ?_
        refine .cv (VOk.lenStr (s := a0) rfl Tryd.underlying9 rfl) rfl rfl ?_
        refine .cv (VOk.arith (op := .geq) (k := .i64) (a := (a0.length : Int)) (b := 1) rfl rfl rfl rfl) rfl rfl ?_
        refine .cv (VOk.mv (d := (.v (.bool (decide ((a0.length : Int) ≥ 1))))) rfl rfl) rfl rfl ?_
        refine OpsOk.consI rfl rfl rfl (.one rfl) rfl (fun hw25 => (VOk.g (VOk.mv (d := (S a0)) rfl rfl))) ?_
        refine OpsOk.consI rfl rfl rfl (.one rfl) rfl (fun hw25 => (GOk.fr (fr' := [(55, (S a0))]) ⟨DLe.of_eq (cT hw25).symm, trivial⟩ (VOk.g (VOk.lenStr (s := a0) rfl Tryd.underlying9 rfl)))) ?_
        refine OpsOk.consI rfl rfl rfl (.one rfl) rfl (fun hw25 => (GOk.fr (fr' := [(56, (.v (.int .i64 (a0.length : Int))))]) ⟨DLe.of_eq (cT hw25).symm, trivial⟩ (VOk.g (VOk.arith (op := .leq) (k := .i64) (a := (a0.length : Int)) (b := 70) rfl rfl rfl rfl)))) ?_
        refine .cv (VOk.to (VOk.pickI (b := (decide ((a0.length : Int) ≥ 1))) (p := (decide ((a0.length : Int) ≤ 70))) (q := false) rfl rfl (fun hp26 => (cT (t_beq hp26))) (fun hp26 => rfl)) (pickAnd (decide ((a0.length : Int) ≥ 1)) (decide ((a0.length : Int) ≤ 70)))) rfl rfl ?_
        refine .cv (VOk.asg (d := (.v (.bool ((decide ((a0.length : Int) ≥ 1)) && (decide ((a0.length : Int) ≤ 70)))))) rfl rfl) rfl rfl ?_
        exact .done (.rf rfl rfl)
      refine Ok.ret ?_
      obtain rfl := Option.some.inj H
      exact ⟨.inl rfl, ⟨_, (.cons (.tmp rfl) .nil), rfl⟩, trivial⟩

/-! watchbill/watchbillref03.Index: function 54 -/
def watchbillref03_Index.l0 (k : Nat) (a0 : Str) (a2 : Str) : Nat → Int → Option Int
  | 0, _ => none
  | m3 + 1, x7_1 => (if (decide (x7_1 ≤ (IntKind.i64.wrap ((a0.length : Int) - (a2.length : Int))))) = true then (if (0 : Int) ≤ x7_1 ∧ x7_1 ≤ (IntKind.i64.wrap (x7_1 + (a2.length : Int))) ∧ (IntKind.i64.wrap (x7_1 + (a2.length : Int))) ≤ (a0.length : Int) then (if ((sl a0 x7_1 (IntKind.i64.wrap (x7_1 + (a2.length : Int)))) == a2) = true then some x7_1 else watchbillref03_Index.l0 k a0 a2 m3 (IntKind.i64.wrap (x7_1 + 1))) else none) else some (-1))
def watchbillref03_Index (k : Nat) (a0 : Str) (a1 : Int) (a2 : Str) : Option Int := watchbillref03_Index.l0 k a0 a2 k a1
theorem watchbillref03_Index.ok {k : Nat} {a0 : Str} {a1 : Int} {a2 : Str} {r : Int} (H : watchbillref03_Index k a0 a1 a2 = some r) : Vx.Fn Tryd.prog 54 [(S a0), (.v (.int .i64 a1)), (S a2)] [] (.v (.int .i64 r)) [] := by
  unfold watchbillref03_Index at H
  refine Vx.Fn.of_okR Tryd.func54 rfl (Nat.le_of_ble_eq_true rfl) ?_
  refine Ok.seq ?_
  refine Ok.region (σ' := ⟨[(0, (S a0)), (1, (.v (.int .i64 a1))), (2, (S a2))], []⟩) ?_ ?_
  · refine .cv (VOk.asg (d := (.v (.int .i64 0))) rfl rfl) rfl rfl ?_
    exact .done (.rf rfl rfl)
  refine Ok.seq ?_
  refine Ok.seq ?_
  refine Ok.region (σ' := ⟨[(0, (S a0)), (2, (S a2)), (7, (.v (.int .i64 a1)))], []⟩) ?_ ?_
  · refine .cv (VOk.mv (d := (.v (.int .i64 a1))) rfl rfl) rfl rfl ?_
    refine .cv (VOk.asg (d := (.v (.int .i64 a1))) rfl rfl) rfl rfl ?_
    exact .done (.rf rfl rfl)
  refine Ok.block ?_
  refine Ok.le (σ' := ⟨[(0, (S a0)), (2, (S a2)), (7, (.v (.int .i64 a1)))], []⟩) (.rf rfl rfl) ?_
  refine Ok.loop (fun m3 σ => ∃ (x7_1 : Int), σ = ⟨[(0, (S a0)), (2, (S a2)), (7, (.v (.int .i64 x7_1)))], []⟩ ∧ watchbillref03_Index.l0 k a0 a2 m3 x7_1 = some r) k ⟨a1, rfl, H⟩ ?_
  rintro m3 σ ⟨x7_1, rfl, H⟩
  cases m3 with
  | zero => exact absurd H (by simp [watchbillref03_Index.l0])
  | succ m3 =>
    unfold watchbillref03_Index.l0 at H
    refine Ok.seq ?_
    refine Ok.seq ?_
    refine Ok.region (σ' := ⟨[(0, (S a0)), (2, (S a2)), (7, (.v (.int .i64 x7_1))), (15, (.v (.bool (decide (x7_1 ≤ (IntKind.i64.wrap ((a0.length : Int) - (a2.length : Int))))))))], []⟩) ?_ ?_
    · refine .cv (VOk.mv (d := (.v (.int .i64 x7_1))) rfl rfl) rfl rfl ?_
      refine .cv (VOk.mv (d := (S a0)) rfl rfl) rfl rfl ?_
      refine .cv (VOk.lenStr (s := a0) rfl Tryd.underlying9 rfl) rfl rfl ?_
      refine .cv (VOk.mv (d := (S a2)) rfl rfl) rfl rfl ?_
      refine .cv (VOk.lenStr (s := a2) rfl Tryd.underlying9 rfl) rfl rfl ?_
      refine .cv (VOk.arith (op := .sub) (k := .i64) (a := (a0.length : Int)) (b := (a2.length : Int)) rfl rfl rfl rfl) rfl rfl ?_
      refine .cv (VOk.arith (op := .leq) (k := .i64) (a := x7_1) (b := (IntKind.i64.wrap ((a0.length : Int) - (a2.length : Int)))) rfl rfl rfl rfl) rfl rfl ?_
      exact .done (.rf rfl rfl)
    refine Ok.test (b := (decide (x7_1 ≤ (IntKind.i64.wrap ((a0.length : Int) - (a2.length : Int)))))) rfl (fun hb6 => ?_) (fun hb6 => ?_)
    · replace H := ifT H hb6
      refine Ok.skip ?_
      refine Ok.seq ?_
      refine Ok.block ?_
      refine Ok.seq ?_
      obtain ⟨c4, H⟩ := assertE H
      refine Ok.region (σ' := ⟨[(0, (S a0)), (2, (S a2)), (7, (.v (.int .i64 x7_1))), (26, (.v (.bool ((sl a0 x7_1 (IntKind.i64.wrap (x7_1 + (a2.length : Int)))) == a2))))], []⟩) ?_ ?_
      · refine .cv (VOk.mv (d := (S a0)) rfl rfl) rfl rfl ?_
        refine .cv (VOk.mv (d := (.v (.int .i64 x7_1))) rfl rfl) rfl rfl ?_
        refine .cv (VOk.mv (d := (.v (.int .i64 x7_1))) rfl rfl) rfl rfl ?_
        refine .cv (VOk.mv (d := (S a2)) rfl rfl) rfl rfl ?_
        refine .cv (VOk.lenStr (s := a2) rfl Tryd.underlying9 rfl) rfl rfl ?_
        refine .cv (VOk.arith (op := .add) (k := .i64) (a := x7_1) (b := (a2.length : Int)) rfl rfl rfl rfl) rfl rfl ?_
        refine .cv (VOk.sliceStr (s := a0) (l := x7_1) (h := (IntKind.i64.wrap (x7_1 + (a2.length : Int)))) rfl Tryd.underlying9 rfl rfl rfl c4) rfl rfl ?_
        refine .cv (VOk.mv (d := (S a2)) rfl rfl) rfl rfl ?_
        refine .cv (VOk.strOp (op := .eql) (a := (sl a0 x7_1 (IntKind.i64.wrap (x7_1 + (a2.length : Int))))) (b := a2) rfl rfl rfl rfl) rfl rfl ?_
        exact .done (.rf rfl rfl)
      refine Ok.test (b := ((sl a0 x7_1 (IntKind.i64.wrap (x7_1 + (a2.length : Int)))) == a2)) rfl (fun hb5 => ?_) (fun hb5 => ?_)
      · replace H := ifT H hb5
        refine Ok.seq ?_
        refine Ok.region (σ' := ⟨[(6, (.v (.int .i64 x7_1)))], []⟩) ?_ ?_
        · refine .cv (VOk.mv (d := (.v (.int .i64 x7_1))) rfl rfl) rfl rfl ?_
          refine .cv (VOk.asg (d := (.v (.int .i64 x7_1))) rfl rfl) rfl rfl ?_
          exact .done (.rf rfl rfl)
        refine Ok.ret ?_
        obtain rfl := Option.some.inj H
        exact ⟨.inl rfl, ⟨_, (.cons (.tmp rfl) .nil), rfl⟩, trivial⟩
      · replace H := ifF H hb5
        refine Ok.skip ?_
        refine Ok.region (σ' := ⟨[(0, (S a0)), (2, (S a2)), (7, (.v (.int .i64 (IntKind.i64.wrap (x7_1 + 1)))))], []⟩) ?_ ?_
        · refine .cv (VOk.mv (d := (.v (.int .i64 x7_1))) rfl rfl) rfl rfl ?_
          refine .cv (VOk.arith (op := .add) (k := .i64) (a := x7_1) (b := 1) rfl rfl rfl rfl) rfl rfl ?_
          refine .cv (VOk.asg (d := (.v (.int .i64 (IntKind.i64.wrap (x7_1 + 1))))) rfl rfl) rfl rfl ?_
          exact .done (.rf rfl rfl)
        exact ⟨m3, Nat.lt_succ_self m3, (IntKind.i64.wrap (x7_1 + 1)), rfl, H⟩
    · replace H := ifF H hb6
      refine Ok.exit ?_
      refine Ok.seq ?_
      refine Ok.region (σ' := ⟨[(6, (.v (.int .i64 (-1))))], []⟩) ?_ ?_
      · refine .cv (VOk.asg (d := (.v (.int .i64 (-1)))) rfl rfl) rfl rfl ?_
        exact .done (.rf rfl rfl)
      refine Ok.ret ?_
      obtain rfl := Option.some.inj H
      exact ⟨.inl rfl, ⟨_, (.cons (.tmp rfl) .nil), rfl⟩, trivial⟩

/-! watchbill/watchbillref08.Clash: function 35 -/
def watchbillref08_Clash (k : Nat) (a0 : Str) (a1 : Str) : Option Bool := (if ([13, 10] : Str).length + a1.length ≤ 9223372036854775807 then (if ([13, 10, 45, 45] : Str).length + a0.length ≤ 9223372036854775807 then ((watchbillref03_Index k (([13, 10] : Str) ++ a1) 0 (([13, 10, 45, 45] : Str) ++ a0)).bind fun (t3 : Int) => some (decide (t3 ≥ 0))) else none) else none)
theorem watchbillref08_Clash.ok {k : Nat} {a0 : Str} {a1 : Str} {r : Bool} (H : watchbillref08_Clash k a0 a1 = some r) : Vx.Fn Tryd.prog 35 [(S a0), (S a1)] [] (.v (.bool r)) [] := by
  unfold watchbillref08_Clash at H
  refine Vx.Fn.of_okR Tryd.func35 rfl (Nat.le_of_ble_eq_true rfl) ?_
  refine Ok.seq ?_
  refine Ok.region (σ' := ⟨[(0, (S a0)), (1, (S a1))], []⟩) ?_ ?_
  · refine .cv (VOk.asg (d := (.v (.bool false))) rfl rfl) rfl rfl ?_
    exact .done (.rf rfl rfl)
  refine Ok.seq ?_
  obtain ⟨c1, H⟩ := assertE H
  obtain ⟨c2, H⟩ := assertE H
  obtain ⟨t3, h4, H⟩ := bindE H
  refine Ok.region (σ' := ⟨[(4, (.v (.bool (decide (t3 ≥ 0)))))], []⟩) ?_ ?_
  · refine .cv (VOk.mv (d := (S a1)) rfl rfl) rfl rfl ?_
    refine .cv (VOk.cat (a := ([13, 10] : Str)) (b := a1) rfl rfl rfl c1) rfl rfl ?_
    refine .cv (VOk.mv (d := (S a0)) rfl rfl) rfl rfl ?_
    refine .cv (VOk.cat (a := ([13, 10, 45, 45] : Str)) (b := a0) rfl rfl rfl c2) rfl rfl ?_
    refine .cg (GOk.call rfl rfl cl54 rfl (watchbillref03_Index.ok h4) rfl) rfl rfl ?_
    refine .cv (VOk.arith (op := .geq) (k := .i64) (a := t3) (b := 0) rfl rfl rfl rfl) rfl rfl ?_
    refine .cv (VOk.asg (d := (.v (.bool (decide (t3 ≥ 0))))) rfl rfl) rfl rfl ?_
    exact .done (.rf rfl rfl)
  refine Ok.ret ?_
  obtain rfl := Option.some.inj H
  exact ⟨.inl rfl, ⟨_, (.cons (.tmp rfl) .nil), rfl⟩, trivial⟩

/-! watchbill/watchbillref03.Begins: function 32 -/
def watchbillref03_Begins (a0 : Str) (a1 : Int) (a2 : Str) : Option Bool := (if ((((decide (a1 ≥ 0)) && (decide ((IntKind.i64.wrap ((a0.length : Int) - a1)) ≥ (a2.length : Int)))) == true) = true → (0 : Int) ≤ a1 ∧ a1 ≤ (IntKind.i64.wrap (a1 + (a2.length : Int))) ∧ (IntKind.i64.wrap (a1 + (a2.length : Int))) ≤ (a0.length : Int)) then some (((decide (a1 ≥ 0)) && (decide ((IntKind.i64.wrap ((a0.length : Int) - a1)) ≥ (a2.length : Int)))) && ((sl a0 a1 (IntKind.i64.wrap (a1 + (a2.length : Int)))) == a2)) else none)
theorem watchbillref03_Begins.ok {a0 : Str} {a1 : Int} {a2 : Str} {r : Bool} (H : watchbillref03_Begins a0 a1 a2 = some r) : Vx.Fn Tryd.prog 32 [(S a0), (.v (.int .i64 a1)), (S a2)] [] (.v (.bool r)) [] := by
  unfold watchbillref03_Begins at H
  refine Vx.Fn.of_okR Tryd.func32 rfl (Nat.le_of_ble_eq_true rfl) ?_
  refine Ok.seq ?_
  refine Ok.region (σ' := ⟨[(0, (S a0)), (1, (.v (.int .i64 a1))), (2, (S a2))], []⟩) ?_ ?_
  · refine .cv (VOk.asg (d := (.v (.bool false))) rfl rfl) rfl rfl ?_
    exact .done (.rf rfl rfl)
  refine Ok.seq ?_
  obtain ⟨c4, H⟩ := assertE H
  refine Ok.region (σ' := ⟨[(6, (.v (.bool (((decide (a1 ≥ 0)) && (decide ((IntKind.i64.wrap ((a0.length : Int) - a1)) ≥ (a2.length : Int)))) && ((sl a0 a1 (IntKind.i64.wrap (a1 + (a2.length : Int)))) == a2)))))], []⟩) ?_ ?_
  · refine .cv (VOk.mv (d := (.v (.int .i64 a1))) rfl rfl) rfl rfl ?_
    refine .cv (VOk.arith (op := .geq) (k := .i64) (a := a1) (b := 0) rfl rfl rfl rfl) rfl rfl ?_
    refine .cv (VOk.mv (d := (.v (.bool (decide (a1 ≥ 0))))) rfl rfl) rfl rfl ?_
    refine OpsOk.consI rfl rfl rfl (.one rfl) rfl (fun hw1 => (VOk.g (VOk.mv (d := (S a0)) rfl rfl))) ?_
    refine OpsOk.consI rfl rfl rfl (.one rfl) rfl (fun hw1 => (GOk.fr (fr' := [(10, (S a0))]) ⟨DLe.of_eq (cT hw1).symm, trivial⟩ (VOk.g (VOk.lenStr (s := a0) rfl Tryd.underlying9 rfl)))) ?_
    refine OpsOk.consI rfl rfl rfl (.one rfl) rfl (fun hw1 => (VOk.g (VOk.mv (d := (.v (.int .i64 a1))) rfl rfl))) ?_
    refine OpsOk.consI rfl rfl rfl (.one rfl) rfl (fun hw1 => (GOk.fr (fr' := [(11, (.v (.int .i64 (a0.length : Int)))), (12, (.v (.int .i64 a1)))]) ⟨DLe.of_eq (cT hw1).symm, DLe.of_eq (cT hw1).symm, trivial⟩ (VOk.g (VOk.arith (op := .sub) (k := .i64) (a := (a0.length : Int)) (b := a1) rfl rfl rfl rfl)))) ?_
    refine OpsOk.consI rfl rfl rfl (.one rfl) rfl (fun hw1 => (VOk.g (VOk.mv (d := (S a2)) rfl rfl))) ?_
    refine OpsOk.consI rfl rfl rfl (.one rfl) rfl (fun hw1 => (GOk.fr (fr' := [(14, (S a2))]) ⟨DLe.of_eq (cT hw1).symm, trivial⟩ (VOk.g (VOk.lenStr (s := a2) rfl Tryd.underlying9 rfl)))) ?_
    refine OpsOk.consI rfl rfl rfl (.one rfl) rfl (fun hw1 => (GOk.fr (fr' := [(13, (.v (.int .i64 (IntKind.i64.wrap ((a0.length : Int) - a1))))), (15, (.v (.int .i64 (a2.length : Int))))]) ⟨DLe.of_eq (cT hw1).symm, DLe.of_eq (cT hw1).symm, trivial⟩ (VOk.g (VOk.arith (op := .geq) (k := .i64) (a := (IntKind.i64.wrap ((a0.length : Int) - a1))) (b := (a2.length : Int)) rfl rfl rfl rfl)))) ?_
    refine .cv (VOk.to (VOk.pickI (b := (decide (a1 ≥ 0))) (p := (decide ((IntKind.i64.wrap ((a0.length : Int) - a1)) ≥ (a2.length : Int)))) (q := false) rfl rfl (fun hp2 => (cT (t_beq hp2))) (fun hp2 => rfl)) (pickAnd (decide (a1 ≥ 0)) (decide ((IntKind.i64.wrap ((a0.length : Int) - a1)) ≥ (a2.length : Int))))) rfl rfl ?_
    refine .cv (VOk.mv (d := (.v (.bool ((decide (a1 ≥ 0)) && (decide ((IntKind.i64.wrap ((a0.length : Int) - a1)) ≥ (a2.length : Int))))))) rfl rfl) rfl rfl ?_
    refine OpsOk.consI rfl rfl rfl (.one rfl) rfl (fun hw3 => (VOk.g (VOk.mv (d := (S a0)) rfl rfl))) ?_
    refine OpsOk.consI rfl rfl rfl (.one rfl) rfl (fun hw3 => (VOk.g (VOk.mv (d := (.v (.int .i64 a1))) rfl rfl))) ?_
    refine OpsOk.consI rfl rfl rfl (.one rfl) rfl (fun hw3 => (VOk.g (VOk.mv (d := (.v (.int .i64 a1))) rfl rfl))) ?_
    refine OpsOk.consI rfl rfl rfl (.one rfl) rfl (fun hw3 => (VOk.g (VOk.mv (d := (S a2)) rfl rfl))) ?_
    refine OpsOk.consI rfl rfl rfl (.one rfl) rfl (fun hw3 => (GOk.fr (fr' := [(22, (S a2))]) ⟨DLe.of_eq (cT hw3).symm, trivial⟩ (VOk.g (VOk.lenStr (s := a2) rfl Tryd.underlying9 rfl)))) ?_
    refine OpsOk.consI rfl rfl rfl (.one rfl) rfl (fun hw3 => (GOk.fr (fr' := [(21, (.v (.int .i64 a1))), (23, (.v (.int .i64 (a2.length : Int))))]) ⟨DLe.of_eq (cT hw3).symm, DLe.of_eq (cT hw3).symm, trivial⟩ (VOk.g (VOk.arith (op := .add) (k := .i64) (a := a1) (b := (a2.length : Int)) rfl rfl rfl rfl)))) ?_
    refine OpsOk.consI rfl rfl rfl (.one rfl) rfl (fun hw3 => (GOk.fr (fr' := [(19, (S a0)), (20, (.v (.int .i64 a1))), (24, (.v (.int .i64 (IntKind.i64.wrap (a1 + (a2.length : Int))))))]) ⟨DLe.of_eq (cT hw3).symm, DLe.of_eq (cT hw3).symm, DLe.of_eq (cT hw3).symm, trivial⟩ (VOk.g (VOk.sliceStr (s := a0) (l := a1) (h := (IntKind.i64.wrap (a1 + (a2.length : Int)))) rfl Tryd.underlying9 rfl rfl rfl (c4 hw3))))) ?_
    refine OpsOk.consI rfl rfl rfl (.one rfl) rfl (fun hw3 => (VOk.g (VOk.mv (d := (S a2)) rfl rfl))) ?_
    refine OpsOk.consI rfl rfl rfl (.one rfl) rfl (fun hw3 => (GOk.fr (fr' := [(25, (S (sl a0 a1 (IntKind.i64.wrap (a1 + (a2.length : Int)))))), (26, (S a2))]) ⟨DLe.of_eq (cT hw3).symm, DLe.of_eq (cT hw3).symm, trivial⟩ (VOk.g (VOk.strOp (op := .eql) (a := (sl a0 a1 (IntKind.i64.wrap (a1 + (a2.length : Int))))) (b := a2) rfl rfl rfl rfl)))) ?_
    refine .cv (VOk.to (VOk.pickI (b := ((decide (a1 ≥ 0)) && (decide ((IntKind.i64.wrap ((a0.length : Int) - a1)) ≥ (a2.length : Int))))) (p := ((sl a0 a1 (IntKind.i64.wrap (a1 + (a2.length : Int)))) == a2)) (q := false) rfl rfl (fun hp5 => (cT (t_beq hp5))) (fun hp5 => rfl)) (pickAnd ((decide (a1 ≥ 0)) && (decide ((IntKind.i64.wrap ((a0.length : Int) - a1)) ≥ (a2.length : Int)))) ((sl a0 a1 (IntKind.i64.wrap (a1 + (a2.length : Int)))) == a2))) rfl rfl ?_
    refine .cv (VOk.asg (d := (.v (.bool (((decide (a1 ≥ 0)) && (decide ((IntKind.i64.wrap ((a0.length : Int) - a1)) ≥ (a2.length : Int)))) && ((sl a0 a1 (IntKind.i64.wrap (a1 + (a2.length : Int)))) == a2))))) rfl rfl) rfl rfl ?_
    exact .done (.rf rfl rfl)
  refine Ok.ret ?_
  obtain rfl := Option.some.inj H
  exact ⟨.inl rfl, ⟨_, (.cons (.tmp rfl) .nil), rfl⟩, trivial⟩

/-! watchbill/watchbillref08.Clashes: function 17 -/
def watchbillref08_Clashes.l1 (k : Nat) (c0 : Int → Option Bool) (a0 : Str) (a1 : List T_api_Part) (x5_1 : Int) : Nat → Int → Option Bool
  | 0, _ => none
  | m9 + 1, x6_7 => (if (0 : Int) ≤ x5_1 ∧ x5_1 < (a1.length : Int) then (if (decide (x6_7 < (((rd a1 x5_1).Fields).length : Int))) = true then (if (0 : Int) ≤ x5_1 ∧ x5_1 < (a1.length : Int) then (if (0 : Int) ≤ x6_7 ∧ x6_7 < (((rd a1 x5_1).Fields).length : Int) then (if ((rd ((rd a1 x5_1).Fields) x6_7).Name).length + ([58] : Str).length ≤ 9223372036854775807 then (if ([45, 45] : Str).length + a0.length ≤ 9223372036854775807 then ((watchbillref03_Begins (((rd ((rd a1 x5_1).Fields) x6_7).Name) ++ ([58] : Str)) 0 (([45, 45] : Str) ++ a0)).bind fun (t15 : Bool) => (if t15 = true then some true else watchbillref08_Clashes.l1 k c0 a0 a1 x5_1 m9 (IntKind.i64.wrap (x6_7 + 1)))) else none) else none) else none) else none) else c0 (IntKind.i64.wrap (x5_1 + 1))) else none)
def watchbillref08_Clashes.l0 (k : Nat) (a0 : Str) (a1 : List T_api_Part) : Nat → Int → Option Bool
  | 0, _ => none
  | m3 + 1, x5_1 => (if (decide (x5_1 < (a1.length : Int))) = true then (if (0 : Int) ≤ x5_1 ∧ x5_1 < (a1.length : Int) then ((watchbillref08_Clash k a0 ((rd a1 x5_1).Body)).bind fun (t5 : Bool) => (if t5 = true then some true else watchbillref08_Clashes.l1 k (watchbillref08_Clashes.l0 k a0 a1 m3) a0 a1 x5_1 k 0)) else none) else some false)
def watchbillref08_Clashes (k : Nat) (a0 : Str) (a1 : List T_api_Part) : Option Bool := watchbillref08_Clashes.l0 k a0 a1 k 0
theorem watchbillref08_Clashes.ok {k : Nat} {a0 : Str} {a1 : List T_api_Part} {r : Bool} (H : watchbillref08_Clashes k a0 a1 = some r) : Vx.Fn Tryd.prog 17 [(S a0), (L 2 e_api_Part a1)] [] (.v (.bool r)) [] := by
  unfold watchbillref08_Clashes at H
  refine Vx.Fn.of_okR Tryd.func17 rfl (Nat.le_of_ble_eq_true rfl) ?_
  refine Ok.seq ?_
  refine Ok.region (σ' := ⟨[(0, (S a0)), (1, (L 2 e_api_Part a1))], []⟩) ?_ ?_
  · refine .cv (VOk.asg (d := (.v (.bool false))) rfl rfl) rfl rfl ?_
    exact .done (.rf rfl rfl)
  refine Ok.seq ?_
  refine Ok.seq ?_
  refine Ok.region (σ' := ⟨[(0, (S a0)), (1, (L 2 e_api_Part a1)), (5, (.v (.int .i64 0)))], []⟩) ?_ ?_
  · refine .cv (VOk.asg (d := (.v (.int .i64 0))) rfl rfl) rfl rfl ?_
    exact .done (.rf rfl rfl)
  refine Ok.block ?_
  refine Ok.le (σ' := ⟨[(0, (S a0)), (1, (L 2 e_api_Part a1)), (5, (.v (.int .i64 0)))], []⟩) (.rf rfl rfl) ?_
  refine Ok.loop (fun m3 σ => ∃ (x5_1 : Int), σ = ⟨[(0, (S a0)), (1, (L 2 e_api_Part a1)), (5, (.v (.int .i64 x5_1)))], []⟩ ∧ watchbillref08_Clashes.l0 k a0 a1 m3 x5_1 = some r) k ⟨0, rfl, H⟩ ?_
  rintro m3 σ ⟨x5_1, rfl, H⟩
  cases m3 with
  | zero => exact absurd H (by simp [watchbillref08_Clashes.l0])
  | succ m3 =>
    unfold watchbillref08_Clashes.l0 at H
    refine Ok.seq ?_
    refine Ok.seq ?_
    refine Ok.region (σ' := ⟨[(0, (S a0)), (1, (L 2 e_api_Part a1)), (5, (.v (.int .i64 x5_1))), (10, (.v (.bool (decide (x5_1 < (a1.length : Int))))))], []⟩) ?_ ?_
    · refine .cv (VOk.mv (d := (.v (.int .i64 x5_1))) rfl rfl) rfl rfl ?_
      refine .cv (VOk.mv (d := (L 2 e_api_Part a1)) rfl rfl) rfl rfl ?_
      refine .cv (VOk.lenL (e := e_api_Part) (xs := a1) rfl Tryd.underlying22 rfl) rfl rfl ?_
      refine .cv (VOk.arith (op := .lss) (k := .i64) (a := x5_1) (b := (a1.length : Int)) rfl rfl rfl rfl) rfl rfl ?_
      exact .done (.rf rfl rfl)
    refine Ok.test (b := (decide (x5_1 < (a1.length : Int)))) rfl (fun hb20 => ?_) (fun hb20 => ?_)
    · replace H := ifT H hb20
      refine Ok.skip ?_
      refine Ok.seq ?_
      refine Ok.block ?_
      refine Ok.seq ?_
      refine Ok.seq ?_
      obtain ⟨c4, H⟩ := assertE H
      obtain ⟨t5, h6, H⟩ := bindE H
      refine Ok.region (σ' := ⟨[(0, (S a0)), (1, (L 2 e_api_Part a1)), (5, (.v (.int .i64 x5_1))), (19, (.v (.bool t5)))], []⟩) ?_ ?_
      · refine .cv (VOk.mv (d := (S a0)) rfl rfl) rfl rfl ?_
        refine .cv (VOk.mv (d := (L 2 e_api_Part a1)) rfl rfl) rfl rfl ?_
        refine .cv (VOk.mv (d := (.v (.int .i64 x5_1))) rfl rfl) rfl rfl ?_
        refine .cv (VOk.indexL (sz := 2) (e := e_api_Part) (xs := a1) (i := x5_1) rfl Tryd.underlying22 sz43 rfl rfl c4) rfl rfl ?_
        refine .cv (VOk.to (VOk.fieldFp rfl Tryd.underlying43 rfl sz9 rfl) rfl) rfl rfl ?_
        refine .cv (VOk.loadFp (d := (S ((rd a1 x5_1).Body))) rfl Tryd.underlying9 rfl rfl rfl) rfl rfl ?_
        refine .cg (GOk.call rfl rfl cl35 rfl (watchbillref08_Clash.ok h6) rfl) rfl rfl ?_
        exact .done (.rf rfl rfl)
      refine Ok.test (b := t5) rfl (fun hb19 => ?_) (fun hb19 => ?_)
      · replace H := ifT H hb19
        refine Ok.seq ?_
        refine Ok.region (σ' := ⟨[(4, (.v (.bool true)))], []⟩) ?_ ?_
        · refine .cv (VOk.asg (d := (.v (.bool true))) rfl rfl) rfl rfl ?_
          exact .done (.rf rfl rfl)
        refine Ok.ret ?_
        obtain rfl := Option.some.inj H
        exact ⟨.inl rfl, ⟨_, (.cons (.tmp rfl) .nil), rfl⟩, trivial⟩
      · replace H := ifF H hb19
        refine Ok.skip ?_
        refine Ok.seq ?_
        refine Ok.region (σ' := ⟨[(0, (S a0)), (1, (L 2 e_api_Part a1)), (5, (.v (.int .i64 x5_1))), (6, (.v (.int .i64 0)))], []⟩) ?_ ?_
        · refine .cv (VOk.asg (d := (.v (.int .i64 0))) rfl rfl) rfl rfl ?_
          exact .done (.rf rfl rfl)
        refine Ok.block ?_
        refine Ok.le (σ' := ⟨[(0, (S a0)), (1, (L 2 e_api_Part a1)), (5, (.v (.int .i64 x5_1))), (6, (.v (.int .i64 0)))], []⟩) (.rf rfl rfl) ?_
        refine Ok.loop (fun m9 σ => ∃ (x6_7 : Int), σ = ⟨[(0, (S a0)), (1, (L 2 e_api_Part a1)), (5, (.v (.int .i64 x5_1))), (6, (.v (.int .i64 x6_7)))], []⟩ ∧ watchbillref08_Clashes.l1 k (watchbillref08_Clashes.l0 k a0 a1 m3) a0 a1 x5_1 m9 x6_7 = some r) k ⟨0, rfl, H⟩ ?_
        rintro m9 σ ⟨x6_7, rfl, H⟩
        cases m9 with
        | zero => exact absurd H (by simp [watchbillref08_Clashes.l1])
        | succ m9 =>
          unfold watchbillref08_Clashes.l1 at H
          refine Ok.seq ?_
          refine Ok.seq ?_
          obtain ⟨c10, H⟩ := assertE H
          refine Ok.region (σ' := ⟨[(0, (S a0)), (1, (L 2 e_api_Part a1)), (5, (.v (.int .i64 x5_1))), (6, (.v (.int .i64 x6_7))), (27, (.v (.bool (decide (x6_7 < (((rd a1 x5_1).Fields).length : Int))))))], []⟩) ?_ ?_
          · refine .cv (VOk.mv (d := (.v (.int .i64 x6_7))) rfl rfl) rfl rfl ?_
            refine .cv (VOk.mv (d := (L 2 e_api_Part a1)) rfl rfl) rfl rfl ?_
            refine .cv (VOk.mv (d := (.v (.int .i64 x5_1))) rfl rfl) rfl rfl ?_
            refine .cv (VOk.indexL (sz := 2) (e := e_api_Part) (xs := a1) (i := x5_1) rfl Tryd.underlying22 sz43 rfl rfl c10) rfl rfl ?_
            refine .cv (VOk.to (VOk.fieldFp rfl Tryd.underlying43 rfl sz41 rfl) rfl) rfl rfl ?_
            refine .cv (VOk.loadFp (d := (L 2 e_api_Field ((rd a1 x5_1).Fields))) rfl Tryd.underlying41 rfl rfl rfl) rfl rfl ?_
            refine .cv (VOk.lenL (e := e_api_Field) (xs := (rd a1 x5_1).Fields) rfl Tryd.underlying41 rfl) rfl rfl ?_
            refine .cv (VOk.arith (op := .lss) (k := .i64) (a := x6_7) (b := (((rd a1 x5_1).Fields).length : Int)) rfl rfl rfl rfl) rfl rfl ?_
            exact .done (.rf rfl rfl)
          refine Ok.test (b := (decide (x6_7 < (((rd a1 x5_1).Fields).length : Int)))) rfl (fun hb18 => ?_) (fun hb18 => ?_)
          · replace H := ifT H hb18
            refine Ok.skip ?_
            refine Ok.seq ?_
            refine Ok.block ?_
            refine Ok.seq ?_
            obtain ⟨c11, H⟩ := assertE H
            obtain ⟨c12, H⟩ := assertE H
            obtain ⟨c13, H⟩ := assertE H
            obtain ⟨c14, H⟩ := assertE H
            obtain ⟨t15, h16, H⟩ := bindE H
            refine Ok.region (σ' := ⟨[(0, (S a0)), (1, (L 2 e_api_Part a1)), (5, (.v (.int .i64 x5_1))), (6, (.v (.int .i64 x6_7))), (42, (.v (.bool t15)))], []⟩) ?_ ?_
            · refine .cv (VOk.mv (d := (L 2 e_api_Part a1)) rfl rfl) rfl rfl ?_
              refine .cv (VOk.mv (d := (.v (.int .i64 x5_1))) rfl rfl) rfl rfl ?_
              refine .cv (VOk.indexL (sz := 2) (e := e_api_Part) (xs := a1) (i := x5_1) rfl Tryd.underlying22 sz43 rfl rfl c11) rfl rfl ?_
              refine .cv (VOk.to (VOk.fieldFp rfl Tryd.underlying43 rfl sz41 rfl) rfl) rfl rfl ?_
              refine .cv (VOk.loadFp (d := (L 2 e_api_Field ((rd a1 x5_1).Fields))) rfl Tryd.underlying41 rfl rfl rfl) rfl rfl ?_
              refine .cv (VOk.mv (d := (.v (.int .i64 x6_7))) rfl rfl) rfl rfl ?_
              refine .cv (VOk.indexL (sz := 2) (e := e_api_Field) (xs := (rd a1 x5_1).Fields) (i := x6_7) rfl Tryd.underlying41 sz67 rfl rfl c12) rfl rfl ?_
              refine .cv (VOk.to (VOk.fieldFp rfl Tryd.underlying67 rfl sz9 rfl) rfl) rfl rfl ?_
              refine .cv (VOk.loadFp (d := (S ((rd ((rd a1 x5_1).Fields) x6_7).Name))) rfl Tryd.underlying9 rfl rfl rfl) rfl rfl ?_
              refine .cv (VOk.cat (a := (rd ((rd a1 x5_1).Fields) x6_7).Name) (b := ([58] : Str)) rfl rfl rfl c13) rfl rfl ?_
              refine .cv (VOk.mv (d := (S a0)) rfl rfl) rfl rfl ?_
              refine .cv (VOk.cat (a := ([45, 45] : Str)) (b := a0) rfl rfl rfl c14) rfl rfl ?_
              refine .cg (GOk.call rfl rfl cl32 rfl (watchbillref03_Begins.ok h16) rfl) rfl rfl ?_
              exact .done (.rf rfl rfl)
            refine Ok.test (b := t15) rfl (fun hb17 => ?_) (fun hb17 => ?_)
            · replace H := ifT H hb17
              refine Ok.seq ?_
              refine Ok.region (σ' := ⟨[(4, (.v (.bool true)))], []⟩) ?_ ?_
              · refine .cv (VOk.asg (d := (.v (.bool true))) rfl rfl) rfl rfl ?_
                exact .done (.rf rfl rfl)
              refine Ok.ret ?_
              obtain rfl := Option.some.inj H
              exact ⟨.inl rfl, ⟨_, (.cons (.tmp rfl) .nil), rfl⟩, trivial⟩
            · replace H := ifF H hb17
              refine Ok.skip ?_
              refine Ok.region (σ' := ⟨[(0, (S a0)), (1, (L 2 e_api_Part a1)), (5, (.v (.int .i64 x5_1))), (6, (.v (.int .i64 (IntKind.i64.wrap (x6_7 + 1)))))], []⟩) ?_ ?_
              · refine .cv (VOk.mv (d := (.v (.int .i64 x6_7))) rfl rfl) rfl rfl ?_
                refine .cv (VOk.arith (op := .add) (k := .i64) (a := x6_7) (b := 1) rfl rfl rfl rfl) rfl rfl ?_
                refine .cv (VOk.asg (d := (.v (.int .i64 (IntKind.i64.wrap (x6_7 + 1))))) rfl rfl) rfl rfl ?_
                exact .done (.rf rfl rfl)
              exact ⟨m9, Nat.lt_succ_self m9, (IntKind.i64.wrap (x6_7 + 1)), rfl, H⟩
          · replace H := ifF H hb18
            refine Ok.exit ?_
            refine Ok.region (σ' := ⟨[(0, (S a0)), (1, (L 2 e_api_Part a1)), (5, (.v (.int .i64 (IntKind.i64.wrap (x5_1 + 1)))))], []⟩) ?_ ?_
            · refine .cv (VOk.mv (d := (.v (.int .i64 x5_1))) rfl rfl) rfl rfl ?_
              refine .cv (VOk.arith (op := .add) (k := .i64) (a := x5_1) (b := 1) rfl rfl rfl rfl) rfl rfl ?_
              refine .cv (VOk.asg (d := (.v (.int .i64 (IntKind.i64.wrap (x5_1 + 1))))) rfl rfl) rfl rfl ?_
              exact .done (.rf rfl rfl)
            exact ⟨m3, Nat.lt_succ_self m3, (IntKind.i64.wrap (x5_1 + 1)), rfl, H⟩
    · replace H := ifF H hb20
      refine Ok.exit ?_
      refine Ok.seq ?_
      refine Ok.region (σ' := ⟨[(4, (.v (.bool false)))], []⟩) ?_ ?_
      · refine .cv (VOk.asg (d := (.v (.bool false))) rfl rfl) rfl rfl ?_
        exact .done (.rf rfl rfl)
      refine Ok.ret ?_
      obtain rfl := Option.some.inj H
      exact ⟨.inl rfl, ⟨_, (.cons (.tmp rfl) .nil), rfl⟩, trivial⟩

/-! watchbill/watchbillref07.Named: function 40 -/
def watchbillref07_Named.l0 (k : Nat) (a0 : Str) : Nat → Int → Option Bool
  | 0, _ => none
  | m3 + 1, x3_1 => (if (decide (x3_1 < (a0.length : Int))) = true then (if (0 : Int) ≤ x3_1 ∧ x3_1 < (a0.length : Int) then (if (((decide ((bt a0 x3_1) < 33)) == false) = true → (0 : Int) ≤ x3_1 ∧ x3_1 < (a0.length : Int)) then (if ((((decide ((bt a0 x3_1) < 33)) || (decide ((bt a0 x3_1) > 126))) == false) = true → (0 : Int) ≤ x3_1 ∧ x3_1 < (a0.length : Int)) then (if (((decide ((bt a0 x3_1) < 33)) || (decide ((bt a0 x3_1) > 126))) || ((bt a0 x3_1) == 58)) = true then some false else watchbillref07_Named.l0 k a0 m3 (IntKind.i64.wrap (x3_1 + 1))) else none) else none) else none) else some ((decide ((a0.length : Int) ≥ 1)) && (decide ((a0.length : Int) ≤ 64))))
def watchbillref07_Named (k : Nat) (a0 : Str) : Option Bool := watchbillref07_Named.l0 k a0 k 0
theorem watchbillref07_Named.ok {k : Nat} {a0 : Str} {r : Bool} (H : watchbillref07_Named k a0 = some r) : Vx.Fn Tryd.prog 40 [(S a0)] [] (.v (.bool r)) [] := by
  unfold watchbillref07_Named at H
  refine Vx.Fn.of_okR Tryd.func40 rfl (Nat.le_of_ble_eq_true rfl) ?_
  refine Ok.seq ?_
  refine Ok.region (σ' := ⟨[(0, (S a0))], []⟩) ?_ ?_
  · refine .cv (VOk.asg (d := (.v (.bool false))) rfl rfl) rfl rfl ?_
    exact .done (.rf rfl rfl)
  refine Ok.seq ?_
  refine Ok.seq ?_
  refine Ok.region (σ' := ⟨[(0, (S a0)), (3, (.v (.int .i64 0)))], []⟩) ?_ ?_
  · refine .cv (VOk.asg (d := (.v (.int .i64 0))) rfl rfl) rfl rfl ?_
    exact .done (.rf rfl rfl)
  refine Ok.block ?_
  refine Ok.le (σ' := ⟨[(0, (S a0)), (3, (.v (.int .i64 0)))], []⟩) (.rf rfl rfl) ?_
  refine Ok.loop (fun m3 σ => ∃ (x3_1 : Int), σ = ⟨[(0, (S a0)), (3, (.v (.int .i64 x3_1)))], []⟩ ∧ watchbillref07_Named.l0 k a0 m3 x3_1 = some r) k ⟨0, rfl, H⟩ ?_
  rintro m3 σ ⟨x3_1, rfl, H⟩
  cases m3 with
  | zero => exact absurd H (by simp [watchbillref07_Named.l0])
  | succ m3 =>
    unfold watchbillref07_Named.l0 at H
    refine Ok.seq ?_
    refine Ok.seq ?_
    refine Ok.region (σ' := ⟨[(0, (S a0)), (3, (.v (.int .i64 x3_1))), (7, (.v (.bool (decide (x3_1 < (a0.length : Int))))))], []⟩) ?_ ?_
    · refine .cv (VOk.mv (d := (.v (.int .i64 x3_1))) rfl rfl) rfl rfl ?_
      refine .cv (VOk.mv (d := (S a0)) rfl rfl) rfl rfl ?_
      refine .cv (VOk.lenStr (s := a0) rfl Tryd.underlying9 rfl) rfl rfl ?_
      refine .cv (VOk.arith (op := .lss) (k := .i64) (a := x3_1) (b := (a0.length : Int)) rfl rfl rfl rfl) rfl rfl ?_
      exact .done (.rf rfl rfl)
    refine Ok.test (b := (decide (x3_1 < (a0.length : Int)))) rfl (fun hb14 => ?_) (fun hb14 => ?_)
    · replace H := ifT H hb14
      refine Ok.skip ?_
      refine Ok.seq ?_
      refine Ok.block ?_
      refine Ok.seq ?_
      obtain ⟨c4, H⟩ := assertE H
      obtain ⟨c6, H⟩ := assertE H
      obtain ⟨c9, H⟩ := assertE H
      refine Ok.region (σ' := ⟨[(0, (S a0)), (3, (.v (.int .i64 x3_1))), (25, (.v (.bool (((decide ((bt a0 x3_1) < 33)) || (decide ((bt a0 x3_1) > 126))) || ((bt a0 x3_1) == 58)))))], []⟩) ?_ ?_
      · refine .cv (VOk.mv (d := (S a0)) rfl rfl) rfl rfl ?_
        refine .cv (VOk.mv (d := (.v (.int .i64 x3_1))) rfl rfl) rfl rfl ?_
        refine .cv (VOk.indexStr (s := a0) (i := x3_1) rfl Tryd.underlying9 rfl rfl c4) rfl rfl ?_
        refine .cv (VOk.arith (op := .lss) (k := .u8) (a := (bt a0 x3_1)) (b := 33) rfl rfl rfl rfl) rfl rfl ?_
        refine .cv (VOk.mv (d := (.v (.bool (decide ((bt a0 x3_1) < 33))))) rfl rfl) rfl rfl ?_
        refine OpsOk.consI rfl rfl rfl (.one rfl) rfl (fun hw5 => (VOk.g (VOk.mv (d := (S a0)) rfl rfl))) ?_
        refine OpsOk.consI rfl rfl rfl (.one rfl) rfl (fun hw5 => (VOk.g (VOk.mv (d := (.v (.int .i64 x3_1))) rfl rfl))) ?_
        refine OpsOk.consI rfl rfl rfl (.one rfl) rfl (fun hw5 => (GOk.fr (fr' := [(15, (S a0)), (16, (.v (.int .i64 x3_1)))]) ⟨DLe.of_eq (cT hw5).symm, DLe.of_eq (cT hw5).symm, trivial⟩ (VOk.g (VOk.indexStr (s := a0) (i := x3_1) rfl Tryd.underlying9 rfl rfl (c6 hw5))))) ?_
        refine OpsOk.consI rfl rfl rfl (.one rfl) rfl (fun hw5 => (GOk.fr (fr' := [(17, (.v (.int .u8 (bt a0 x3_1))))]) ⟨DLe.of_eq (cT hw5).symm, trivial⟩ (VOk.g (VOk.arith (op := .gtr) (k := .u8) (a := (bt a0 x3_1)) (b := 126) rfl rfl rfl rfl)))) ?_
        refine .cv (VOk.to (VOk.pickI (b := (decide ((bt a0 x3_1) < 33))) (p := true) (q := (decide ((bt a0 x3_1) > 126))) rfl rfl (fun hp7 => rfl) (fun hp7 => (cT (f_beq hp7)))) (pickOr (decide ((bt a0 x3_1) < 33)) (decide ((bt a0 x3_1) > 126)))) rfl rfl ?_
        refine .cv (VOk.mv (d := (.v (.bool ((decide ((bt a0 x3_1) < 33)) || (decide ((bt a0 x3_1) > 126)))))) rfl rfl) rfl rfl ?_
        refine OpsOk.consI rfl rfl rfl (.one rfl) rfl (fun hw8 => (VOk.g (VOk.mv (d := (S a0)) rfl rfl))) ?_
        refine OpsOk.consI rfl rfl rfl (.one rfl) rfl (fun hw8 => (VOk.g (VOk.mv (d := (.v (.int .i64 x3_1))) rfl rfl))) ?_
        refine OpsOk.consI rfl rfl rfl (.one rfl) rfl (fun hw8 => (GOk.fr (fr' := [(21, (S a0)), (22, (.v (.int .i64 x3_1)))]) ⟨DLe.of_eq (cT hw8).symm, DLe.of_eq (cT hw8).symm, trivial⟩ (VOk.g (VOk.indexStr (s := a0) (i := x3_1) rfl Tryd.underlying9 rfl rfl (c9 hw8))))) ?_
        refine OpsOk.consI rfl rfl rfl (.one rfl) rfl (fun hw8 => (GOk.fr (fr' := [(23, (.v (.int .u8 (bt a0 x3_1))))]) ⟨DLe.of_eq (cT hw8).symm, trivial⟩ (VOk.g (VOk.arith (op := .eql) (k := .u8) (a := (bt a0 x3_1)) (b := 58) rfl rfl rfl rfl)))) ?_
        refine .cv (VOk.to (VOk.pickI (b := ((decide ((bt a0 x3_1) < 33)) || (decide ((bt a0 x3_1) > 126)))) (p := true) (q := ((bt a0 x3_1) == 58)) rfl rfl (fun hp10 => rfl) (fun hp10 => (cT (f_beq hp10)))) (pickOr ((decide ((bt a0 x3_1) < 33)) || (decide ((bt a0 x3_1) > 126))) ((bt a0 x3_1) == 58))) rfl rfl ?_
        exact .done (.rf rfl rfl)
      refine Ok.test (b := (((decide ((bt a0 x3_1) < 33)) || (decide ((bt a0 x3_1) > 126))) || ((bt a0 x3_1) == 58))) rfl (fun hb11 => ?_) (fun hb11 => ?_)
      · replace H := ifT H hb11
        refine Ok.seq ?_
        refine Ok.region (σ' := ⟨[(2, (.v (.bool false)))], []⟩) ?_ ?_
        · refine .cv (VOk.asg (d := (.v (.bool false))) rfl rfl) rfl rfl ?_
          exact .done (.rf rfl rfl)
        refine Ok.ret ?_
        obtain rfl := Option.some.inj H
        exact ⟨.inl rfl, ⟨_, (.cons (.tmp rfl) .nil), rfl⟩, trivial⟩
      · replace H := ifF H hb11
        refine Ok.skip ?_
        refine Ok.region (σ' := ⟨[(0, (S a0)), (3, (.v (.int .i64 (IntKind.i64.wrap (x3_1 + 1)))))], []⟩) ?_ ?_
        · refine .cv (VOk.mv (d := (.v (.int .i64 x3_1))) rfl rfl) rfl rfl ?_
          refine .cv (VOk.arith (op := .add) (k := .i64) (a := x3_1) (b := 1) rfl rfl rfl rfl) rfl rfl ?_
          refine .cv (VOk.asg (d := (.v (.int .i64 (IntKind.i64.wrap (x3_1 + 1))))) rfl rfl) rfl rfl ?_
          exact .done (.rf rfl rfl)
        exact ⟨m3, Nat.lt_succ_self m3, (IntKind.i64.wrap (x3_1 + 1)), rfl, H⟩
    · replace H := ifF H hb14
      refine Ok.exit ?_
      refine Ok.seq ?_
      refine Ok.region (σ' := ⟨[(2, (.v (.bool ((decide ((a0.length : Int) ≥ 1)) && (decide ((a0.length : Int) ≤ 64))))))], []⟩) ?_ ?_
      · refine .cv (VOk.mv (d := (S a0)) rfl rfl) rfl rfl ?_
        refine .cv (VOk.lenStr (s := a0) rfl Tryd.underlying9 rfl) rfl rfl ?_
        refine .cv (VOk.arith (op := .geq) (k := .i64) (a := (a0.length : Int)) (b := 1) rfl rfl rfl rfl) rfl rfl ?_
        refine .cv (VOk.mv (d := (.v (.bool (decide ((a0.length : Int) ≥ 1))))) rfl rfl) rfl rfl ?_
        refine OpsOk.consI rfl rfl rfl (.one rfl) rfl (fun hw12 => (VOk.g (VOk.mv (d := (S a0)) rfl rfl))) ?_
        refine OpsOk.consI rfl rfl rfl (.one rfl) rfl (fun hw12 => (GOk.fr (fr' := [(30, (S a0))]) ⟨DLe.of_eq (cT hw12).symm, trivial⟩ (VOk.g (VOk.lenStr (s := a0) rfl Tryd.underlying9 rfl)))) ?_
        refine OpsOk.consI rfl rfl rfl (.one rfl) rfl (fun hw12 => (GOk.fr (fr' := [(31, (.v (.int .i64 (a0.length : Int))))]) ⟨DLe.of_eq (cT hw12).symm, trivial⟩ (VOk.g (VOk.arith (op := .leq) (k := .i64) (a := (a0.length : Int)) (b := 64) rfl rfl rfl rfl)))) ?_
        refine .cv (VOk.to (VOk.pickI (b := (decide ((a0.length : Int) ≥ 1))) (p := (decide ((a0.length : Int) ≤ 64))) (q := false) rfl rfl (fun hp13 => (cT (t_beq hp13))) (fun hp13 => rfl)) (pickAnd (decide ((a0.length : Int) ≥ 1)) (decide ((a0.length : Int) ≤ 64)))) rfl rfl ?_
        refine .cv (VOk.asg (d := (.v (.bool ((decide ((a0.length : Int) ≥ 1)) && (decide ((a0.length : Int) ≤ 64)))))) rfl rfl) rfl rfl ?_
        exact .done (.rf rfl rfl)
      refine Ok.ret ?_
      obtain rfl := Option.some.inj H
      exact ⟨.inl rfl, ⟨_, (.cons (.tmp rfl) .nil), rfl⟩, trivial⟩

/-! watchbill/watchbillref07.Printable: function 41 -/
def watchbillref07_Printable.l0 (k : Nat) (a0 : Str) : Nat → Int → Option Bool
  | 0, _ => none
  | m3 + 1, x3_1 => (if (decide (x3_1 < (a0.length : Int))) = true then (if (0 : Int) ≤ x3_1 ∧ x3_1 < (a0.length : Int) then (if (((decide ((bt a0 x3_1) < 32)) == false) = true → (0 : Int) ≤ x3_1 ∧ x3_1 < (a0.length : Int)) then (if ((((decide ((bt a0 x3_1) < 32)) || (decide ((bt a0 x3_1) > 126))) == false) = true → (0 : Int) ≤ x3_1 ∧ x3_1 < (a0.length : Int)) then (if ((((((decide ((bt a0 x3_1) < 32)) || (decide ((bt a0 x3_1) > 126))) == false) && (((bt a0 x3_1) == 32) == true)) && (((x3_1 == 0) || (x3_1 == (IntKind.i64.wrap ((a0.length : Int) - 1)))) == false)) = true → (0 : Int) ≤ (IntKind.i64.wrap (x3_1 - 1)) ∧ (IntKind.i64.wrap (x3_1 - 1)) < (a0.length : Int)) then (if (((decide ((bt a0 x3_1) < 32)) || (decide ((bt a0 x3_1) > 126))) || (((bt a0 x3_1) == 32) && (((x3_1 == 0) || (x3_1 == (IntKind.i64.wrap ((a0.length : Int) - 1)))) || ((bt a0 (IntKind.i64.wrap (x3_1 - 1))) == 32)))) = true then some false else watchbillref07_Printable.l0 k a0 m3 (IntKind.i64.wrap (x3_1 + 1))) else none) else none) else none) else none) else some true)
def watchbillref07_Printable (k : Nat) (a0 : Str) : Option Bool := watchbillref07_Printable.l0 k a0 k 0
theorem watchbillref07_Printable.ok {k : Nat} {a0 : Str} {r : Bool} (H : watchbillref07_Printable k a0 = some r) : Vx.Fn Tryd.prog 41 [(S a0)] [] (.v (.bool r)) [] := by
  unfold watchbillref07_Printable at H
  refine Vx.Fn.of_okR Tryd.func41 rfl (Nat.le_of_ble_eq_true rfl) ?_
  refine Ok.seq ?_
  refine Ok.region (σ' := ⟨[(0, (S a0))], []⟩) ?_ ?_
  · refine .cv (VOk.asg (d := (.v (.bool false))) rfl rfl) rfl rfl ?_
    exact .done (.rf rfl rfl)
  refine Ok.seq ?_
  refine Ok.seq ?_
  refine Ok.region (σ' := ⟨[(0, (S a0)), (3, (.v (.int .i64 0)))], []⟩) ?_ ?_
  · refine .cv (VOk.asg (d := (.v (.int .i64 0))) rfl rfl) rfl rfl ?_
    exact .done (.rf rfl rfl)
  refine Ok.block ?_
  refine Ok.le (σ' := ⟨[(0, (S a0)), (3, (.v (.int .i64 0)))], []⟩) (.rf rfl rfl) ?_
  refine Ok.loop (fun m3 σ => ∃ (x3_1 : Int), σ = ⟨[(0, (S a0)), (3, (.v (.int .i64 x3_1)))], []⟩ ∧ watchbillref07_Printable.l0 k a0 m3 x3_1 = some r) k ⟨0, rfl, H⟩ ?_
  rintro m3 σ ⟨x3_1, rfl, H⟩
  cases m3 with
  | zero => exact absurd H (by simp [watchbillref07_Printable.l0])
  | succ m3 =>
    unfold watchbillref07_Printable.l0 at H
    refine Ok.seq ?_
    refine Ok.seq ?_
    refine Ok.region (σ' := ⟨[(0, (S a0)), (3, (.v (.int .i64 x3_1))), (7, (.v (.bool (decide (x3_1 < (a0.length : Int))))))], []⟩) ?_ ?_
    · refine .cv (VOk.mv (d := (.v (.int .i64 x3_1))) rfl rfl) rfl rfl ?_
      refine .cv (VOk.mv (d := (S a0)) rfl rfl) rfl rfl ?_
      refine .cv (VOk.lenStr (s := a0) rfl Tryd.underlying9 rfl) rfl rfl ?_
      refine .cv (VOk.arith (op := .lss) (k := .i64) (a := x3_1) (b := (a0.length : Int)) rfl rfl rfl rfl) rfl rfl ?_
      exact .done (.rf rfl rfl)
    refine Ok.test (b := (decide (x3_1 < (a0.length : Int)))) rfl (fun hb19 => ?_) (fun hb19 => ?_)
    · replace H := ifT H hb19
      refine Ok.skip ?_
      refine Ok.seq ?_
      refine Ok.block ?_
      refine Ok.seq ?_
      obtain ⟨c4, H⟩ := assertE H
      obtain ⟨c6, H⟩ := assertE H
      obtain ⟨c9, H⟩ := assertE H
      obtain ⟨c14, H⟩ := assertE H
      refine Ok.region (σ' := ⟨[(0, (S a0)), (3, (.v (.int .i64 x3_1))), (43, (.v (.bool (((decide ((bt a0 x3_1) < 32)) || (decide ((bt a0 x3_1) > 126))) || (((bt a0 x3_1) == 32) && (((x3_1 == 0) || (x3_1 == (IntKind.i64.wrap ((a0.length : Int) - 1)))) || ((bt a0 (IntKind.i64.wrap (x3_1 - 1))) == 32)))))))], []⟩) ?_ ?_
      · refine .cv (VOk.mv (d := (S a0)) rfl rfl) rfl rfl ?_
        refine .cv (VOk.mv (d := (.v (.int .i64 x3_1))) rfl rfl) rfl rfl ?_
        refine .cv (VOk.indexStr (s := a0) (i := x3_1) rfl Tryd.underlying9 rfl rfl c4) rfl rfl ?_
        refine .cv (VOk.arith (op := .lss) (k := .u8) (a := (bt a0 x3_1)) (b := 32) rfl rfl rfl rfl) rfl rfl ?_
        refine .cv (VOk.mv (d := (.v (.bool (decide ((bt a0 x3_1) < 32))))) rfl rfl) rfl rfl ?_
        refine OpsOk.consI rfl rfl rfl (.one rfl) rfl (fun hw5 => (VOk.g (VOk.mv (d := (S a0)) rfl rfl))) ?_
        refine OpsOk.consI rfl rfl rfl (.one rfl) rfl (fun hw5 => (VOk.g (VOk.mv (d := (.v (.int .i64 x3_1))) rfl rfl))) ?_
        refine OpsOk.consI rfl rfl rfl (.one rfl) rfl (fun hw5 => (GOk.fr (fr' := [(15, (S a0)), (16, (.v (.int .i64 x3_1)))]) ⟨DLe.of_eq (cT hw5).symm, DLe.of_eq (cT hw5).symm, trivial⟩ (VOk.g (VOk.indexStr (s := a0) (i := x3_1) rfl Tryd.underlying9 rfl rfl (c6 hw5))))) ?_
        refine OpsOk.consI rfl rfl rfl (.one rfl) rfl (fun hw5 => (GOk.fr (fr' := [(17, (.v (.int .u8 (bt a0 x3_1))))]) ⟨DLe.of_eq (cT hw5).symm, trivial⟩ (VOk.g (VOk.arith (op := .gtr) (k := .u8) (a := (bt a0 x3_1)) (b := 126) rfl rfl rfl rfl)))) ?_
        refine .cv (VOk.to (VOk.pickI (b := (decide ((bt a0 x3_1) < 32))) (p := true) (q := (decide ((bt a0 x3_1) > 126))) rfl rfl (fun hp7 => rfl) (fun hp7 => (cT (f_beq hp7)))) (pickOr (decide ((bt a0 x3_1) < 32)) (decide ((bt a0 x3_1) > 126)))) rfl rfl ?_
        refine .cv (VOk.mv (d := (.v (.bool ((decide ((bt a0 x3_1) < 32)) || (decide ((bt a0 x3_1) > 126)))))) rfl rfl) rfl rfl ?_
        refine OpsOk.consI rfl rfl rfl (.one rfl) rfl (fun hw8 => (VOk.g (VOk.mv (d := (S a0)) rfl rfl))) ?_
        refine OpsOk.consI rfl rfl rfl (.one rfl) rfl (fun hw8 => (VOk.g (VOk.mv (d := (.v (.int .i64 x3_1))) rfl rfl))) ?_
        refine OpsOk.consI rfl rfl rfl (.one rfl) rfl (fun hw8 => (GOk.fr (fr' := [(21, (S a0)), (22, (.v (.int .i64 x3_1)))]) ⟨DLe.of_eq (cT hw8).symm, DLe.of_eq (cT hw8).symm, trivial⟩ (VOk.g (VOk.indexStr (s := a0) (i := x3_1) rfl Tryd.underlying9 rfl rfl (c9 hw8))))) ?_
        refine OpsOk.consI rfl rfl rfl (.one rfl) rfl (fun hw8 => (GOk.fr (fr' := [(23, (.v (.int .u8 (bt a0 x3_1))))]) ⟨DLe.of_eq (cT hw8).symm, trivial⟩ (VOk.g (VOk.arith (op := .eql) (k := .u8) (a := (bt a0 x3_1)) (b := 32) rfl rfl rfl rfl)))) ?_
        refine OpsOk.consI rfl rfl rfl (.one rfl) rfl (fun hw8 => (GOk.fr (fr' := [(24, (.v (.bool ((bt a0 x3_1) == 32))))]) ⟨DLe.of_eq (cT hw8).symm, trivial⟩ (VOk.g (VOk.mv (d := (.v (.bool ((bt a0 x3_1) == 32)))) rfl rfl)))) ?_
        refine OpsOk.consI rfl rfl rfl (.two rfl) rfl (fun hw10 => (VOk.g (VOk.mv (d := (.v (.int .i64 x3_1))) rfl rfl))) ?_
        refine OpsOk.consI rfl rfl rfl (.two rfl) rfl (fun hw10 => (GOk.fr (fr' := [(26, (.v (.int .i64 x3_1)))]) ⟨DLe.of_eq (cT hw10).symm, trivial⟩ (VOk.g (VOk.arith (op := .eql) (k := .i64) (a := x3_1) (b := 0) rfl rfl rfl rfl)))) ?_
        refine OpsOk.consI rfl rfl rfl (.two rfl) rfl (fun hw10 => (GOk.fr (fr' := [(27, (.v (.bool (x3_1 == 0))))]) ⟨DLe.of_eq (cT hw10).symm, trivial⟩ (VOk.g (VOk.mv (d := (.v (.bool (x3_1 == 0)))) rfl rfl)))) ?_
        refine OpsOk.consI rfl rfl rfl (.two rfl) rfl (fun hw11 => (VOk.g (VOk.mv (d := (.v (.int .i64 x3_1))) rfl rfl))) ?_
        refine OpsOk.consI rfl rfl rfl (.two rfl) rfl (fun hw11 => (VOk.g (VOk.mv (d := (S a0)) rfl rfl))) ?_
        refine OpsOk.consI rfl rfl rfl (.two rfl) rfl (fun hw11 => (GOk.fr (fr' := [(30, (S a0))]) ⟨DLe.of_eq (cT hw11).symm, trivial⟩ (VOk.g (VOk.lenStr (s := a0) rfl Tryd.underlying9 rfl)))) ?_
        refine OpsOk.consI rfl rfl rfl (.two rfl) rfl (fun hw11 => (GOk.fr (fr' := [(31, (.v (.int .i64 (a0.length : Int))))]) ⟨DLe.of_eq (cT hw11).symm, trivial⟩ (VOk.g (VOk.arith (op := .sub) (k := .i64) (a := (a0.length : Int)) (b := 1) rfl rfl rfl rfl)))) ?_
        refine OpsOk.consI rfl rfl rfl (.two rfl) rfl (fun hw11 => (GOk.fr (fr' := [(29, (.v (.int .i64 x3_1))), (32, (.v (.int .i64 (IntKind.i64.wrap ((a0.length : Int) - 1)))))]) ⟨DLe.of_eq (cT hw11).symm, DLe.of_eq (cT hw11).symm, trivial⟩ (VOk.g (VOk.arith (op := .eql) (k := .i64) (a := x3_1) (b := (IntKind.i64.wrap ((a0.length : Int) - 1))) rfl rfl rfl rfl)))) ?_
        refine OpsOk.consI rfl rfl rfl (.two rfl) rfl (fun hw10 => (VOk.g (VOk.to (VOk.pickI (b := (x3_1 == 0)) (p := true) (q := (x3_1 == (IntKind.i64.wrap ((a0.length : Int) - 1)))) rfl (cT hw10) (fun hp12 => rfl) (fun hp12 => (cT (and_i hw10 (f_beq hp12))))) (pickOr (x3_1 == 0) (x3_1 == (IntKind.i64.wrap ((a0.length : Int) - 1))))))) ?_
        refine OpsOk.consI rfl rfl rfl (.two rfl) rfl (fun hw10 => (GOk.fr (fr' := [(34, (.v (.bool ((x3_1 == 0) || (x3_1 == (IntKind.i64.wrap ((a0.length : Int) - 1)))))))]) ⟨DLe.of_eq (cT hw10).symm, trivial⟩ (VOk.g (VOk.mv (d := (.v (.bool ((x3_1 == 0) || (x3_1 == (IntKind.i64.wrap ((a0.length : Int) - 1))))))) rfl rfl)))) ?_
        refine OpsOk.consI rfl rfl rfl (.two rfl) rfl (fun hw13 => (VOk.g (VOk.mv (d := (S a0)) rfl rfl))) ?_
        refine OpsOk.consI rfl rfl rfl (.two rfl) rfl (fun hw13 => (VOk.g (VOk.mv (d := (.v (.int .i64 x3_1))) rfl rfl))) ?_
        refine OpsOk.consI rfl rfl rfl (.two rfl) rfl (fun hw13 => (GOk.fr (fr' := [(37, (.v (.int .i64 x3_1)))]) ⟨DLe.of_eq (cT hw13).symm, trivial⟩ (VOk.g (VOk.arith (op := .sub) (k := .i64) (a := x3_1) (b := 1) rfl rfl rfl rfl)))) ?_
        refine OpsOk.consI rfl rfl rfl (.two rfl) rfl (fun hw13 => (GOk.fr (fr' := [(36, (S a0)), (38, (.v (.int .i64 (IntKind.i64.wrap (x3_1 - 1)))))]) ⟨DLe.of_eq (cT hw13).symm, DLe.of_eq (cT hw13).symm, trivial⟩ (VOk.g (VOk.indexStr (s := a0) (i := (IntKind.i64.wrap (x3_1 - 1))) rfl Tryd.underlying9 rfl rfl (c14 hw13))))) ?_
        refine OpsOk.consI rfl rfl rfl (.two rfl) rfl (fun hw13 => (GOk.fr (fr' := [(39, (.v (.int .u8 (bt a0 (IntKind.i64.wrap (x3_1 - 1))))))]) ⟨DLe.of_eq (cT hw13).symm, trivial⟩ (VOk.g (VOk.arith (op := .eql) (k := .u8) (a := (bt a0 (IntKind.i64.wrap (x3_1 - 1)))) (b := 32) rfl rfl rfl rfl)))) ?_
        refine OpsOk.consI rfl rfl rfl (.two rfl) rfl (fun hw10 => (VOk.g (VOk.to (VOk.pickI (b := ((x3_1 == 0) || (x3_1 == (IntKind.i64.wrap ((a0.length : Int) - 1))))) (p := true) (q := ((bt a0 (IntKind.i64.wrap (x3_1 - 1))) == 32)) rfl (cT hw10) (fun hp15 => rfl) (fun hp15 => (cT (and_i hw10 (f_beq hp15))))) (pickOr ((x3_1 == 0) || (x3_1 == (IntKind.i64.wrap ((a0.length : Int) - 1)))) ((bt a0 (IntKind.i64.wrap (x3_1 - 1))) == 32))))) ?_
        refine OpsOk.consI rfl rfl rfl (.one rfl) rfl (fun hw8 => (VOk.g (VOk.to (VOk.pickI (b := ((bt a0 x3_1) == 32)) (p := (((x3_1 == 0) || (x3_1 == (IntKind.i64.wrap ((a0.length : Int) - 1)))) || ((bt a0 (IntKind.i64.wrap (x3_1 - 1))) == 32))) (q := false) rfl (cT hw8) (fun hp16 => (cT (and_i hw8 (t_beq hp16)))) (fun hp16 => rfl)) (pickAnd ((bt a0 x3_1) == 32) (((x3_1 == 0) || (x3_1 == (IntKind.i64.wrap ((a0.length : Int) - 1)))) || ((bt a0 (IntKind.i64.wrap (x3_1 - 1))) == 32)))))) ?_
        refine .cv (VOk.to (VOk.pickI (b := ((decide ((bt a0 x3_1) < 32)) || (decide ((bt a0 x3_1) > 126)))) (p := true) (q := (((bt a0 x3_1) == 32) && (((x3_1 == 0) || (x3_1 == (IntKind.i64.wrap ((a0.length : Int) - 1)))) || ((bt a0 (IntKind.i64.wrap (x3_1 - 1))) == 32)))) rfl rfl (fun hp17 => rfl) (fun hp17 => (cT (f_beq hp17)))) (pickOr ((decide ((bt a0 x3_1) < 32)) || (decide ((bt a0 x3_1) > 126))) (((bt a0 x3_1) == 32) && (((x3_1 == 0) || (x3_1 == (IntKind.i64.wrap ((a0.length : Int) - 1)))) || ((bt a0 (IntKind.i64.wrap (x3_1 - 1))) == 32))))) rfl rfl ?_
        exact .done (.rf rfl rfl)
      refine Ok.test (b := (((decide ((bt a0 x3_1) < 32)) || (decide ((bt a0 x3_1) > 126))) || (((bt a0 x3_1) == 32) && (((x3_1 == 0) || (x3_1 == (IntKind.i64.wrap ((a0.length : Int) - 1)))) || ((bt a0 (IntKind.i64.wrap (x3_1 - 1))) == 32))))) rfl (fun hb18 => ?_) (fun hb18 => ?_)
      · replace H := ifT H hb18
        refine Ok.seq ?_
        refine Ok.region (σ' := ⟨[(2, (.v (.bool false)))], []⟩) ?_ ?_
        · refine .cv (VOk.asg (d := (.v (.bool false))) rfl rfl) rfl rfl ?_
          exact .done (.rf rfl rfl)
        refine Ok.ret ?_
        obtain rfl := Option.some.inj H
        exact ⟨.inl rfl, ⟨_, (.cons (.tmp rfl) .nil), rfl⟩, trivial⟩
      · replace H := ifF H hb18
        refine Ok.skip ?_
        refine Ok.region (σ' := ⟨[(0, (S a0)), (3, (.v (.int .i64 (IntKind.i64.wrap (x3_1 + 1)))))], []⟩) ?_ ?_
        · refine .cv (VOk.mv (d := (.v (.int .i64 x3_1))) rfl rfl) rfl rfl ?_
          refine .cv (VOk.arith (op := .add) (k := .i64) (a := x3_1) (b := 1) rfl rfl rfl rfl) rfl rfl ?_
          refine .cv (VOk.asg (d := (.v (.int .i64 (IntKind.i64.wrap (x3_1 + 1))))) rfl rfl) rfl rfl ?_
          exact .done (.rf rfl rfl)
        exact ⟨m3, Nat.lt_succ_self m3, (IntKind.i64.wrap (x3_1 + 1)), rfl, H⟩
    · replace H := ifF H hb19
      refine Ok.exit ?_
      refine Ok.seq ?_
      refine Ok.region (σ' := ⟨[(2, (.v (.bool true)))], []⟩) ?_ ?_
      · refine .cv (VOk.asg (d := (.v (.bool true))) rfl rfl) rfl rfl ?_
        exact .done (.rf rfl rfl)
      refine Ok.ret ?_
      obtain rfl := Option.some.inj H
      exact ⟨.inl rfl, ⟨_, (.cons (.tmp rfl) .nil), rfl⟩, trivial⟩

/-! watchbill/watchbillref07.print: function 42 -/
def watchbillref07_print.j2 (c0 : Str → Str → Str → Int → Int → Int → Option (Str × Bool)) (x6_4 : Int) (x7_5 : Int) (y1_0_16 : Str) (y1_1_17 : Str) (x8_15 : Int) (x4_25 : Str) (x5_26 : Int) : Option (Str × Bool) := (if x4_25.length + ([32] : Str).length ≤ 9223372036854775807 then (if (0 : Int) ≤ x7_5 ∧ x7_5 ≤ x8_15 ∧ x8_15 ≤ (y1_1_17.length : Int) then (if (x4_25 ++ ([32] : Str)).length + (sl y1_1_17 x7_5 x8_15).length ≤ 9223372036854775807 then (if (decide ((IntKind.i64.wrap ((IntKind.i64.wrap ((IntKind.i64.wrap (x5_26 + 1)) + x8_15)) - x7_5)) > 998)) = true then some (([] : Str), false) else c0 y1_0_16 y1_1_17 ((x4_25 ++ ([32] : Str)) ++ (sl y1_1_17 x7_5 x8_15)) (IntKind.i64.wrap ((IntKind.i64.wrap ((IntKind.i64.wrap (x5_26 + 1)) + x8_15)) - x7_5)) (IntKind.i64.wrap (x6_4 + 1)) (IntKind.i64.wrap (x8_15 + 1))) else none) else none) else none)
def watchbillref07_print.l1 (k : Nat) (c0 : Str → Str → Str → Int → Int → Int → Option (Str × Bool)) (x4_2 : Str) (x5_3 : Int) (x6_4 : Int) (x7_5 : Int) : Nat → Str → Str → Int → Option (Str × Bool)
  | 0, _, _, _ => none
  | m21 + 1, y1_0_16, y1_1_17, x8_15 => (if (((decide (x8_15 < (y1_1_17.length : Int))) == true) = true → (0 : Int) ≤ x8_15 ∧ x8_15 < (y1_1_17.length : Int)) then (if ((decide (x8_15 < (y1_1_17.length : Int))) && ((bt y1_1_17 x8_15) != 32)) = true then watchbillref07_print.l1 k c0 x4_2 x5_3 x6_4 x7_5 m21 y1_0_16 y1_1_17 (IntKind.i64.wrap (x8_15 + 1)) else (if ((decide (x6_4 > 0)) && (decide ((IntKind.i64.wrap ((IntKind.i64.wrap ((IntKind.i64.wrap (x5_3 + 1)) + x8_15)) - x7_5)) > 76))) = true then (if x4_2.length + ([13, 10] : Str).length ≤ 9223372036854775807 then watchbillref07_print.j2 (c0) x6_4 x7_5 y1_0_16 y1_1_17 x8_15 (x4_2 ++ ([13, 10] : Str)) 0 else none) else watchbillref07_print.j2 (c0) x6_4 x7_5 y1_0_16 y1_1_17 x8_15 x4_2 x5_3)) else none)
def watchbillref07_print.l0 (k : Nat) : Nat → Str → Str → Str → Int → Int → Int → Option (Str × Bool)
  | 0, _, _, _, _, _, _ => none
  | m14 + 1, y1_0_6, y1_1_7, x4_2, x5_3, x6_4, x7_5 => (if (decide (x7_5 < (y1_1_7.length : Int))) = true then watchbillref07_print.l1 k (watchbillref07_print.l0 k m14) x4_2 x5_3 x6_4 x7_5 k y1_0_6 y1_1_7 x7_5 else (if x4_2.length + ([13, 10] : Str).length ≤ 9223372036854775807 then some ((x4_2 ++ ([13, 10] : Str)), true) else none))
def watchbillref07_print (k : Nat) (a0 : T_api_Field) : Option (Str × Bool) := (if a0.Name.length + ([58] : Str).length ≤ 9223372036854775807 then watchbillref07_print.l0 k k a0.Name a0.Value (a0.Name ++ ([58] : Str)) ((a0.Name ++ ([58] : Str)).length : Int) 0 0 else none)
theorem watchbillref07_print.ok {k : Nat} {a0 : T_api_Field} {r : Str × Bool} (H : watchbillref07_print k a0 = some r) : Vx.Fn Tryd.prog 42 [(.agg (e_api_Field a0))] [] (.tup [(S r.1), (.v (.bool r.2))]) [] := by
  unfold watchbillref07_print at H
  refine Vx.Fn.of_okR Tryd.func42 rfl (Nat.le_of_ble_eq_true rfl) ?_
  refine Ok.seq ?_
  refine Ok.region (σ' := ⟨[(1, (.bref 1 0))], [(1, (.box .ex [(S a0.Name), (S a0.Value)]))]⟩) ?_ ?_
  · refine OpsOk.cons rfl (OpOk.box 1 (cells := [(S a0.Name), (S a0.Value)]) rfl rfl rfl rfl) ?_
    refine .cv (VOk.asg (d := (S ([] : Str))) rfl rfl) rfl rfl ?_
    refine .cv (VOk.asg (d := (.v (.bool false))) rfl rfl) rfl rfl ?_
    exact .done (.rf rfl rfl)
  refine Ok.seq ?_
  obtain ⟨c1, H⟩ := assertE H
  refine Ok.region (σ' := ⟨[(1, (.bref 1 0)), (4, (S (a0.Name ++ ([58] : Str))))], [(1, (.box .ex [(S a0.Name), (S a0.Value)]))]⟩) ?_ ?_
  · refine .cv (VOk.to (VOk.fieldB rfl Tryd.underlying67 rfl sz9 rfl rfl) rfl) rfl rfl ?_
    refine .cv (VOk.loadB (d := (S a0.Name)) rfl Tryd.underlying9 rfl rfl rfl rfl) rfl rfl ?_
    refine .cv (VOk.cat (a := a0.Name) (b := ([58] : Str)) rfl rfl rfl c1) rfl rfl ?_
    refine .cv (VOk.asg (d := (S (a0.Name ++ ([58] : Str)))) rfl rfl) rfl rfl ?_
    exact .done (.rf rfl rfl)
  refine Ok.seq ?_
  refine Ok.region (σ' := ⟨[(1, (.bref 1 0)), (4, (S (a0.Name ++ ([58] : Str)))), (5, (.v (.int .i64 ((a0.Name ++ ([58] : Str)).length : Int))))], [(1, (.box .ex [(S a0.Name), (S a0.Value)]))]⟩) ?_ ?_
  · refine .cv (VOk.mv (d := (S (a0.Name ++ ([58] : Str)))) rfl rfl) rfl rfl ?_
    refine .cv (VOk.lenStr (s := (a0.Name ++ ([58] : Str))) rfl Tryd.underlying9 rfl) rfl rfl ?_
    refine .cv (VOk.asg (d := (.v (.int .i64 ((a0.Name ++ ([58] : Str)).length : Int)))) rfl rfl) rfl rfl ?_
    exact .done (.rf rfl rfl)
  refine Ok.seq ?_
  refine Ok.region (σ' := ⟨[(1, (.bref 1 0)), (4, (S (a0.Name ++ ([58] : Str)))), (5, (.v (.int .i64 ((a0.Name ++ ([58] : Str)).length : Int)))), (6, (.v (.int .i64 0)))], [(1, (.box .ex [(S a0.Name), (S a0.Value)]))]⟩) ?_ ?_
  · refine .cv (VOk.asg (d := (.v (.int .i64 0))) rfl rfl) rfl rfl ?_
    exact .done (.rf rfl rfl)
  refine Ok.seq ?_
  refine Ok.region (σ' := ⟨[(1, (.bref 1 0)), (4, (S (a0.Name ++ ([58] : Str)))), (5, (.v (.int .i64 ((a0.Name ++ ([58] : Str)).length : Int)))), (6, (.v (.int .i64 0))), (7, (.v (.int .i64 0)))], [(1, (.box .ex [(S a0.Name), (S a0.Value)]))]⟩) ?_ ?_
  · refine .cv (VOk.asg (d := (.v (.int .i64 0))) rfl rfl) rfl rfl ?_
    exact .done (.rf rfl rfl)
  refine Ok.seq ?_
  refine Ok.block ?_
  refine Ok.le (σ' := ⟨[(1, (.bref 1 0)), (4, (S (a0.Name ++ ([58] : Str)))), (5, (.v (.int .i64 ((a0.Name ++ ([58] : Str)).length : Int)))), (6, (.v (.int .i64 0))), (7, (.v (.int .i64 0)))], [(1, (.box .ex [(S a0.Name), (S a0.Value)]))]⟩) (.rf rfl rfl) ?_
  refine Ok.loop (fun m14 σ => ∃ (y1_0_6 : Str) (y1_1_7 : Str) (x4_2 : Str) (x5_3 : Int) (x6_4 : Int) (x7_5 : Int), σ = ⟨[(1, (.bref 1 0)), (4, (S x4_2)), (5, (.v (.int .i64 x5_3))), (6, (.v (.int .i64 x6_4))), (7, (.v (.int .i64 x7_5)))], [(1, (.box .ex [(S y1_0_6), (S y1_1_7)]))]⟩ ∧ watchbillref07_print.l0 k m14 y1_0_6 y1_1_7 x4_2 x5_3 x6_4 x7_5 = some r) k ⟨a0.Name, a0.Value, (a0.Name ++ ([58] : Str)), ((a0.Name ++ ([58] : Str)).length : Int), 0, 0, rfl, H⟩ ?_
  rintro m14 σ ⟨y1_0_6, y1_1_7, x4_2, x5_3, x6_4, x7_5, rfl, H⟩
  cases m14 with
  | zero => exact absurd H (by simp [watchbillref07_print.l0])
  | succ m14 =>
    unfold watchbillref07_print.l0 at H
    refine Ok.seq ?_
    refine Ok.seq ?_
    refine Ok.region (σ' := ⟨[(1, (.bref 1 0)), (4, (S x4_2)), (5, (.v (.int .i64 x5_3))), (6, (.v (.int .i64 x6_4))), (7, (.v (.int .i64 x7_5))), (18, (.v (.bool (decide (x7_5 < (y1_1_7.length : Int))))))], [(1, (.box .ex [(S y1_0_6), (S y1_1_7)]))]⟩) ?_ ?_
    · refine .cv (VOk.mv (d := (.v (.int .i64 x7_5))) rfl rfl) rfl rfl ?_
      refine .cv (VOk.to (VOk.fieldB rfl Tryd.underlying67 rfl sz9 rfl rfl) rfl) rfl rfl ?_
      refine .cv (VOk.loadB (d := (S y1_1_7)) rfl Tryd.underlying9 rfl rfl rfl rfl) rfl rfl ?_
      refine .cv (VOk.lenStr (s := y1_1_7) rfl Tryd.underlying9 rfl) rfl rfl ?_
      refine .cv (VOk.arith (op := .lss) (k := .i64) (a := x7_5) (b := (y1_1_7.length : Int)) rfl rfl rfl rfl) rfl rfl ?_
      exact .done (.rf rfl rfl)
    refine Ok.test (b := (decide (x7_5 < (y1_1_7.length : Int)))) rfl (fun hb37 => ?_) (fun hb37 => ?_)
    · replace H := ifT H hb37
      refine Ok.skip ?_
      refine Ok.block ?_
      refine Ok.seq ?_
      refine Ok.region (σ' := ⟨[(1, (.bref 1 0)), (4, (S x4_2)), (5, (.v (.int .i64 x5_3))), (6, (.v (.int .i64 x6_4))), (7, (.v (.int .i64 x7_5))), (8, (.v (.int .i64 x7_5)))], [(1, (.box .ex [(S y1_0_6), (S y1_1_7)]))]⟩) ?_ ?_
      · refine .cv (VOk.mv (d := (.v (.int .i64 x7_5))) rfl rfl) rfl rfl ?_
        refine .cv (VOk.asg (d := (.v (.int .i64 x7_5))) rfl rfl) rfl rfl ?_
        exact .done (.rf rfl rfl)
      refine Ok.seq ?_
      refine Ok.block ?_
      refine Ok.le (σ' := ⟨[(1, (.bref 1 0)), (4, (S x4_2)), (5, (.v (.int .i64 x5_3))), (6, (.v (.int .i64 x6_4))), (7, (.v (.int .i64 x7_5))), (8, (.v (.int .i64 x7_5)))], [(1, (.box .ex [(S y1_0_6), (S y1_1_7)]))]⟩) (.rf rfl rfl) ?_
      refine Ok.loop (fun m21 σ => ∃ (y1_0_16 : Str) (y1_1_17 : Str) (x8_15 : Int), σ = ⟨[(1, (.bref 1 0)), (4, (S x4_2)), (5, (.v (.int .i64 x5_3))), (6, (.v (.int .i64 x6_4))), (7, (.v (.int .i64 x7_5))), (8, (.v (.int .i64 x8_15)))], [(1, (.box .ex [(S y1_0_16), (S y1_1_17)]))]⟩ ∧ watchbillref07_print.l1 k (watchbillref07_print.l0 k m14) x4_2 x5_3 x6_4 x7_5 m21 y1_0_16 y1_1_17 x8_15 = some r) k ⟨y1_0_6, y1_1_7, x7_5, rfl, H⟩ ?_
      rintro m21 σ ⟨y1_0_16, y1_1_17, x8_15, rfl, H⟩
      cases m21 with
      | zero => exact absurd H (by simp [watchbillref07_print.l1])
      | succ m21 =>
        unfold watchbillref07_print.l1 at H
        refine Ok.seq ?_
        refine Ok.seq ?_
        obtain ⟨c23, H⟩ := assertE H
        refine Ok.region (σ' := ⟨[(1, (.bref 1 0)), (4, (S x4_2)), (5, (.v (.int .i64 x5_3))), (6, (.v (.int .i64 x6_4))), (7, (.v (.int .i64 x7_5))), (8, (.v (.int .i64 x8_15))), (31, (.v (.bool ((decide (x8_15 < (y1_1_17.length : Int))) && ((bt y1_1_17 x8_15) != 32)))))], [(1, (.box .ex [(S y1_0_16), (S y1_1_17)]))]⟩) ?_ ?_
        · refine .cv (VOk.mv (d := (.v (.int .i64 x8_15))) rfl rfl) rfl rfl ?_
          refine .cv (VOk.to (VOk.fieldB rfl Tryd.underlying67 rfl sz9 rfl rfl) rfl) rfl rfl ?_
          refine .cv (VOk.loadB (d := (S y1_1_17)) rfl Tryd.underlying9 rfl rfl rfl rfl) rfl rfl ?_
          refine .cv (VOk.lenStr (s := y1_1_17) rfl Tryd.underlying9 rfl) rfl rfl ?_
          refine .cv (VOk.arith (op := .lss) (k := .i64) (a := x8_15) (b := (y1_1_17.length : Int)) rfl rfl rfl rfl) rfl rfl ?_
          refine .cv (VOk.mv (d := (.v (.bool (decide (x8_15 < (y1_1_17.length : Int)))))) rfl rfl) rfl rfl ?_
          refine OpsOk.consI rfl rfl rfl (.one rfl) rfl (fun hw22 => (VOk.g (VOk.to (VOk.fieldB rfl Tryd.underlying67 rfl sz9 rfl rfl) rfl))) ?_
          refine OpsOk.consI rfl rfl rfl (.one rfl) rfl (fun hw22 => (GOk.fr (fr' := [(26, (.bref 1 1))]) ⟨DLe.of_eq (cT hw22).symm, trivial⟩ (VOk.g (VOk.loadB (d := (S y1_1_17)) rfl Tryd.underlying9 rfl rfl rfl rfl)))) ?_
          refine OpsOk.consI rfl rfl rfl (.one rfl) rfl (fun hw22 => (VOk.g (VOk.mv (d := (.v (.int .i64 x8_15))) rfl rfl))) ?_
          refine OpsOk.consI rfl rfl rfl (.one rfl) rfl (fun hw22 => (GOk.fr (fr' := [(27, (S y1_1_17)), (28, (.v (.int .i64 x8_15)))]) ⟨DLe.of_eq (cT hw22).symm, DLe.of_eq (cT hw22).symm, trivial⟩ (VOk.g (VOk.indexStr (s := y1_1_17) (i := x8_15) rfl Tryd.underlying9 rfl rfl (c23 hw22))))) ?_
          refine OpsOk.consI rfl rfl rfl (.one rfl) rfl (fun hw22 => (GOk.fr (fr' := [(29, (.v (.int .u8 (bt y1_1_17 x8_15))))]) ⟨DLe.of_eq (cT hw22).symm, trivial⟩ (VOk.g (VOk.arith (op := .neq) (k := .u8) (a := (bt y1_1_17 x8_15)) (b := 32) rfl rfl rfl rfl)))) ?_
          refine .cv (VOk.to (VOk.pickI (b := (decide (x8_15 < (y1_1_17.length : Int)))) (p := ((bt y1_1_17 x8_15) != 32)) (q := false) rfl rfl (fun hp24 => (cT (t_beq hp24))) (fun hp24 => rfl)) (pickAnd (decide (x8_15 < (y1_1_17.length : Int))) ((bt y1_1_17 x8_15) != 32))) rfl rfl ?_
          exact .done (.rf rfl rfl)
        refine Ok.test (b := ((decide (x8_15 < (y1_1_17.length : Int))) && ((bt y1_1_17 x8_15) != 32))) rfl (fun hb35 => ?_) (fun hb35 => ?_)
        · replace H := ifT H hb35
          refine Ok.skip ?_
          refine Ok.block ?_
          refine Ok.region (σ' := ⟨[(1, (.bref 1 0)), (4, (S x4_2)), (5, (.v (.int .i64 x5_3))), (6, (.v (.int .i64 x6_4))), (7, (.v (.int .i64 x7_5))), (8, (.v (.int .i64 (IntKind.i64.wrap (x8_15 + 1)))))], [(1, (.box .ex [(S y1_0_16), (S y1_1_17)]))]⟩) ?_ ?_
          · refine .cv (VOk.mv (d := (.v (.int .i64 x8_15))) rfl rfl) rfl rfl ?_
            refine .cv (VOk.arith (op := .add) (k := .i64) (a := x8_15) (b := 1) rfl rfl rfl rfl) rfl rfl ?_
            refine .cv (VOk.asg (d := (.v (.int .i64 (IntKind.i64.wrap (x8_15 + 1))))) rfl rfl) rfl rfl ?_
            exact .done (.rf rfl rfl)
          exact ⟨m21, Nat.lt_succ_self m21, y1_0_16, y1_1_17, (IntKind.i64.wrap (x8_15 + 1)), rfl, H⟩
        · replace H := ifF H hb35
          refine Ok.exit ?_
          refine Ok.meet (fun σ => ∃ (x4_25 : Str) (x5_26 : Int), σ = ⟨[(1, (.bref 1 0)), (4, (S x4_25)), (5, (.v (.int .i64 x5_26))), (6, (.v (.int .i64 x6_4))), (7, (.v (.int .i64 x7_5))), (8, (.v (.int .i64 x8_15)))], [(1, (.box .ex [(S y1_0_16), (S y1_1_17)]))]⟩ ∧ watchbillref07_print.j2 (watchbillref07_print.l0 k m14) x6_4 x7_5 y1_0_16 y1_1_17 x8_15 x4_25 x5_26 = some r) ?_ ?_
          · refine Ok.seq ?_
            refine Ok.region (σ' := ⟨[(1, (.bref 1 0)), (4, (S x4_2)), (5, (.v (.int .i64 x5_3))), (6, (.v (.int .i64 x6_4))), (7, (.v (.int .i64 x7_5))), (8, (.v (.int .i64 x8_15))), (44, (.v (.bool ((decide (x6_4 > 0)) && (decide ((IntKind.i64.wrap ((IntKind.i64.wrap ((IntKind.i64.wrap (x5_3 + 1)) + x8_15)) - x7_5)) > 76))))))], [(1, (.box .ex [(S y1_0_16), (S y1_1_17)]))]⟩) ?_ ?_
            · refine .cv (VOk.mv (d := (.v (.int .i64 x6_4))) rfl rfl) rfl rfl ?_
              refine .cv (VOk.arith (op := .gtr) (k := .i64) (a := x6_4) (b := 0) rfl rfl rfl rfl) rfl rfl ?_
              refine .cv (VOk.mv (d := (.v (.bool (decide (x6_4 > 0))))) rfl rfl) rfl rfl ?_
              refine OpsOk.consI rfl rfl rfl (.one rfl) rfl (fun hw31 => (VOk.g (VOk.mv (d := (.v (.int .i64 x5_3))) rfl rfl))) ?_
              refine OpsOk.consI rfl rfl rfl (.one rfl) rfl (fun hw31 => (GOk.fr (fr' := [(37, (.v (.int .i64 x5_3)))]) ⟨DLe.of_eq (cT hw31).symm, trivial⟩ (VOk.g (VOk.arith (op := .add) (k := .i64) (a := x5_3) (b := 1) rfl rfl rfl rfl)))) ?_
              refine OpsOk.consI rfl rfl rfl (.one rfl) rfl (fun hw31 => (VOk.g (VOk.mv (d := (.v (.int .i64 x8_15))) rfl rfl))) ?_
              refine OpsOk.consI rfl rfl rfl (.one rfl) rfl (fun hw31 => (GOk.fr (fr' := [(38, (.v (.int .i64 (IntKind.i64.wrap (x5_3 + 1))))), (39, (.v (.int .i64 x8_15)))]) ⟨DLe.of_eq (cT hw31).symm, DLe.of_eq (cT hw31).symm, trivial⟩ (VOk.g (VOk.arith (op := .add) (k := .i64) (a := (IntKind.i64.wrap (x5_3 + 1))) (b := x8_15) rfl rfl rfl rfl)))) ?_
              refine OpsOk.consI rfl rfl rfl (.one rfl) rfl (fun hw31 => (VOk.g (VOk.mv (d := (.v (.int .i64 x7_5))) rfl rfl))) ?_
              refine OpsOk.consI rfl rfl rfl (.one rfl) rfl (fun hw31 => (GOk.fr (fr' := [(40, (.v (.int .i64 (IntKind.i64.wrap ((IntKind.i64.wrap (x5_3 + 1)) + x8_15))))), (41, (.v (.int .i64 x7_5)))]) ⟨DLe.of_eq (cT hw31).symm, DLe.of_eq (cT hw31).symm, trivial⟩ (VOk.g (VOk.arith (op := .sub) (k := .i64) (a := (IntKind.i64.wrap ((IntKind.i64.wrap (x5_3 + 1)) + x8_15))) (b := x7_5) rfl rfl rfl rfl)))) ?_
              refine OpsOk.consI rfl rfl rfl (.one rfl) rfl (fun hw31 => (GOk.fr (fr' := [(42, (.v (.int .i64 (IntKind.i64.wrap ((IntKind.i64.wrap ((IntKind.i64.wrap (x5_3 + 1)) + x8_15)) - x7_5)))))]) ⟨DLe.of_eq (cT hw31).symm, trivial⟩ (VOk.g (VOk.arith (op := .gtr) (k := .i64) (a := (IntKind.i64.wrap ((IntKind.i64.wrap ((IntKind.i64.wrap (x5_3 + 1)) + x8_15)) - x7_5))) (b := 76) rfl rfl rfl rfl)))) ?_
              refine .cv (VOk.to (VOk.pickI (b := (decide (x6_4 > 0))) (p := (decide ((IntKind.i64.wrap ((IntKind.i64.wrap ((IntKind.i64.wrap (x5_3 + 1)) + x8_15)) - x7_5)) > 76))) (q := false) rfl rfl (fun hp32 => (cT (t_beq hp32))) (fun hp32 => rfl)) (pickAnd (decide (x6_4 > 0)) (decide ((IntKind.i64.wrap ((IntKind.i64.wrap ((IntKind.i64.wrap (x5_3 + 1)) + x8_15)) - x7_5)) > 76)))) rfl rfl ?_
              exact .done (.rf rfl rfl)
            refine Ok.test (b := ((decide (x6_4 > 0)) && (decide ((IntKind.i64.wrap ((IntKind.i64.wrap ((IntKind.i64.wrap (x5_3 + 1)) + x8_15)) - x7_5)) > 76)))) rfl (fun hb34 => ?_) (fun hb34 => ?_)
            · replace H := ifT H hb34
              refine Ok.seq ?_
              obtain ⟨c33, H⟩ := assertE H
              refine Ok.region (σ' := ⟨[(1, (.bref 1 0)), (4, (S (x4_2 ++ ([13, 10] : Str)))), (6, (.v (.int .i64 x6_4))), (7, (.v (.int .i64 x7_5))), (8, (.v (.int .i64 x8_15)))], [(1, (.box .ex [(S y1_0_16), (S y1_1_17)]))]⟩) ?_ ?_
              · refine .cv (VOk.mv (d := (S x4_2)) rfl rfl) rfl rfl ?_
                refine .cv (VOk.cat (a := x4_2) (b := ([13, 10] : Str)) rfl rfl rfl c33) rfl rfl ?_
                refine .cv (VOk.asg (d := (S (x4_2 ++ ([13, 10] : Str)))) rfl rfl) rfl rfl ?_
                exact .done (.rf rfl rfl)
              refine Ok.region (σ' := ⟨[(1, (.bref 1 0)), (4, (S (x4_2 ++ ([13, 10] : Str)))), (5, (.v (.int .i64 0))), (6, (.v (.int .i64 x6_4))), (7, (.v (.int .i64 x7_5))), (8, (.v (.int .i64 x8_15)))], [(1, (.box .ex [(S y1_0_16), (S y1_1_17)]))]⟩) ?_ ?_
              · refine .cv (VOk.asg (d := (.v (.int .i64 0))) rfl rfl) rfl rfl ?_
                exact .done (.rf rfl rfl)
              exact ⟨(x4_2 ++ ([13, 10] : Str)), 0, rfl, H⟩
            · replace H := ifF H hb34
              refine Ok.le (σ' := ⟨[(1, (.bref 1 0)), (4, (S x4_2)), (5, (.v (.int .i64 x5_3))), (6, (.v (.int .i64 x6_4))), (7, (.v (.int .i64 x7_5))), (8, (.v (.int .i64 x8_15)))], [(1, (.box .ex [(S y1_0_16), (S y1_1_17)]))]⟩) (.rf rfl rfl) ?_
              refine Ok.skip ?_
              exact ⟨x4_2, x5_3, rfl, H⟩
          · rintro σ ⟨x4_25, x5_26, rfl, H⟩
            unfold watchbillref07_print.j2 at H
            refine Ok.seq ?_
            obtain ⟨c27, H⟩ := assertE H
            obtain ⟨c28, H⟩ := assertE H
            obtain ⟨c29, H⟩ := assertE H
            refine Ok.region (σ' := ⟨[(1, (.bref 1 0)), (4, (S ((x4_25 ++ ([32] : Str)) ++ (sl y1_1_17 x7_5 x8_15)))), (5, (.v (.int .i64 x5_26))), (6, (.v (.int .i64 x6_4))), (7, (.v (.int .i64 x7_5))), (8, (.v (.int .i64 x8_15)))], [(1, (.box .ex [(S y1_0_16), (S y1_1_17)]))]⟩) ?_ ?_
            · refine .cv (VOk.mv (d := (S x4_25)) rfl rfl) rfl rfl ?_
              refine .cv (VOk.cat (a := x4_25) (b := ([32] : Str)) rfl rfl rfl c27) rfl rfl ?_
              refine .cv (VOk.to (VOk.fieldB rfl Tryd.underlying67 rfl sz9 rfl rfl) rfl) rfl rfl ?_
              refine .cv (VOk.loadB (d := (S y1_1_17)) rfl Tryd.underlying9 rfl rfl rfl rfl) rfl rfl ?_
              refine .cv (VOk.mv (d := (.v (.int .i64 x7_5))) rfl rfl) rfl rfl ?_
              refine .cv (VOk.mv (d := (.v (.int .i64 x8_15))) rfl rfl) rfl rfl ?_
              refine .cv (VOk.sliceStr (s := y1_1_17) (l := x7_5) (h := x8_15) rfl Tryd.underlying9 rfl rfl rfl c28) rfl rfl ?_
              refine .cv (VOk.cat (a := (x4_25 ++ ([32] : Str))) (b := (sl y1_1_17 x7_5 x8_15)) rfl rfl rfl c29) rfl rfl ?_
              refine .cv (VOk.asg (d := (S ((x4_25 ++ ([32] : Str)) ++ (sl y1_1_17 x7_5 x8_15)))) rfl rfl) rfl rfl ?_
              exact .done (.rf rfl rfl)
            refine Ok.seq ?_
            refine Ok.region (σ' := ⟨[(1, (.bref 1 0)), (4, (S ((x4_25 ++ ([32] : Str)) ++ (sl y1_1_17 x7_5 x8_15)))), (5, (.v (.int .i64 (IntKind.i64.wrap ((IntKind.i64.wrap ((IntKind.i64.wrap (x5_26 + 1)) + x8_15)) - x7_5))))), (6, (.v (.int .i64 x6_4))), (8, (.v (.int .i64 x8_15)))], [(1, (.box .ex [(S y1_0_16), (S y1_1_17)]))]⟩) ?_ ?_
            · refine .cv (VOk.mv (d := (.v (.int .i64 x5_26))) rfl rfl) rfl rfl ?_
              refine .cv (VOk.arith (op := .add) (k := .i64) (a := x5_26) (b := 1) rfl rfl rfl rfl) rfl rfl ?_
              refine .cv (VOk.mv (d := (.v (.int .i64 x8_15))) rfl rfl) rfl rfl ?_
              refine .cv (VOk.arith (op := .add) (k := .i64) (a := (IntKind.i64.wrap (x5_26 + 1))) (b := x8_15) rfl rfl rfl rfl) rfl rfl ?_
              refine .cv (VOk.mv (d := (.v (.int .i64 x7_5))) rfl rfl) rfl rfl ?_
              refine .cv (VOk.arith (op := .sub) (k := .i64) (a := (IntKind.i64.wrap ((IntKind.i64.wrap (x5_26 + 1)) + x8_15))) (b := x7_5) rfl rfl rfl rfl) rfl rfl ?_
              refine .cv (VOk.asg (d := (.v (.int .i64 (IntKind.i64.wrap ((IntKind.i64.wrap ((IntKind.i64.wrap (x5_26 + 1)) + x8_15)) - x7_5))))) rfl rfl) rfl rfl ?_
              exact .done (.rf rfl rfl)
            refine Ok.seq ?_
            refine Ok.region (σ' := ⟨[(1, (.bref 1 0)), (4, (S ((x4_25 ++ ([32] : Str)) ++ (sl y1_1_17 x7_5 x8_15)))), (5, (.v (.int .i64 (IntKind.i64.wrap ((IntKind.i64.wrap ((IntKind.i64.wrap (x5_26 + 1)) + x8_15)) - x7_5))))), (6, (.v (.int .i64 (IntKind.i64.wrap (x6_4 + 1))))), (8, (.v (.int .i64 x8_15)))], [(1, (.box .ex [(S y1_0_16), (S y1_1_17)]))]⟩) ?_ ?_
            · refine .cv (VOk.mv (d := (.v (.int .i64 x6_4))) rfl rfl) rfl rfl ?_
              refine .cv (VOk.arith (op := .add) (k := .i64) (a := x6_4) (b := 1) rfl rfl rfl rfl) rfl rfl ?_
              refine .cv (VOk.asg (d := (.v (.int .i64 (IntKind.i64.wrap (x6_4 + 1))))) rfl rfl) rfl rfl ?_
              exact .done (.rf rfl rfl)
            refine Ok.seq ?_
            refine Ok.seq ?_
            refine Ok.region (σ' := ⟨[(1, (.bref 1 0)), (4, (S ((x4_25 ++ ([32] : Str)) ++ (sl y1_1_17 x7_5 x8_15)))), (5, (.v (.int .i64 (IntKind.i64.wrap ((IntKind.i64.wrap ((IntKind.i64.wrap (x5_26 + 1)) + x8_15)) - x7_5))))), (6, (.v (.int .i64 (IntKind.i64.wrap (x6_4 + 1))))), (8, (.v (.int .i64 x8_15))), (64, (.v (.bool (decide ((IntKind.i64.wrap ((IntKind.i64.wrap ((IntKind.i64.wrap (x5_26 + 1)) + x8_15)) - x7_5)) > 998)))))], [(1, (.box .ex [(S y1_0_16), (S y1_1_17)]))]⟩) ?_ ?_
            · refine .cv (VOk.mv (d := (.v (.int .i64 (IntKind.i64.wrap ((IntKind.i64.wrap ((IntKind.i64.wrap (x5_26 + 1)) + x8_15)) - x7_5))))) rfl rfl) rfl rfl ?_
              refine .cv (VOk.arith (op := .gtr) (k := .i64) (a := (IntKind.i64.wrap ((IntKind.i64.wrap ((IntKind.i64.wrap (x5_26 + 1)) + x8_15)) - x7_5))) (b := 998) rfl rfl rfl rfl) rfl rfl ?_
              exact .done (.rf rfl rfl)
            refine Ok.test (b := (decide ((IntKind.i64.wrap ((IntKind.i64.wrap ((IntKind.i64.wrap (x5_26 + 1)) + x8_15)) - x7_5)) > 998))) rfl (fun hb30 => ?_) (fun hb30 => ?_)
            · replace H := ifT H hb30
              refine Ok.seq ?_
              refine Ok.region (σ' := ⟨[(2, (S ([] : Str))), (3, (.v (.bool false)))], []⟩) ?_ ?_
              · refine .cv (VOk.asg (d := (S ([] : Str))) rfl rfl) rfl rfl ?_
                refine .cv (VOk.asg (d := (.v (.bool false))) rfl rfl) rfl rfl ?_
                exact .done (.rf rfl rfl)
              refine Ok.ret ?_
              obtain rfl := Option.some.inj H
              exact ⟨.inl rfl, ⟨_, (.cons (.tmp rfl) (.cons (.tmp rfl) .nil)), rfl⟩, trivial⟩
            · replace H := ifF H hb30
              refine Ok.skip ?_
              refine Ok.region (σ' := ⟨[(1, (.bref 1 0)), (4, (S ((x4_25 ++ ([32] : Str)) ++ (sl y1_1_17 x7_5 x8_15)))), (5, (.v (.int .i64 (IntKind.i64.wrap ((IntKind.i64.wrap ((IntKind.i64.wrap (x5_26 + 1)) + x8_15)) - x7_5))))), (6, (.v (.int .i64 (IntKind.i64.wrap (x6_4 + 1))))), (7, (.v (.int .i64 (IntKind.i64.wrap (x8_15 + 1)))))], [(1, (.box .ex [(S y1_0_16), (S y1_1_17)]))]⟩) ?_ ?_
              · refine .cv (VOk.mv (d := (.v (.int .i64 x8_15))) rfl rfl) rfl rfl ?_
                refine .cv (VOk.arith (op := .add) (k := .i64) (a := x8_15) (b := 1) rfl rfl rfl rfl) rfl rfl ?_
                refine .cv (VOk.asg (d := (.v (.int .i64 (IntKind.i64.wrap (x8_15 + 1))))) rfl rfl) rfl rfl ?_
                exact .done (.rf rfl rfl)
              exact ⟨m14, Nat.lt_succ_self m14, y1_0_16, y1_1_17, ((x4_25 ++ ([32] : Str)) ++ (sl y1_1_17 x7_5 x8_15)), (IntKind.i64.wrap ((IntKind.i64.wrap ((IntKind.i64.wrap (x5_26 + 1)) + x8_15)) - x7_5)), (IntKind.i64.wrap (x6_4 + 1)), (IntKind.i64.wrap (x8_15 + 1)), rfl, H⟩
    · replace H := ifF H hb37
      refine Ok.exit ?_
      refine Ok.seq ?_
      obtain ⟨c36, H⟩ := assertE H
      refine Ok.region (σ' := ⟨[(2, (S (x4_2 ++ ([13, 10] : Str)))), (3, (.v (.bool true)))], []⟩) ?_ ?_
      · refine .cv (VOk.mv (d := (S x4_2)) rfl rfl) rfl rfl ?_
        refine .cv (VOk.cat (a := x4_2) (b := ([13, 10] : Str)) rfl rfl rfl c36) rfl rfl ?_
        refine .cv (VOk.asg (d := (S (x4_2 ++ ([13, 10] : Str)))) rfl rfl) rfl rfl ?_
        refine .cv (VOk.asg (d := (.v (.bool true))) rfl rfl) rfl rfl ?_
        exact .done (.rf rfl rfl)
      refine Ok.ret ?_
      obtain rfl := Option.some.inj H
      exact ⟨.inl rfl, ⟨_, (.cons (.tmp rfl) (.cons (.tmp rfl) .nil)), rfl⟩, trivial⟩

/-! watchbill/watchbillref07.Print: function 24 -/
def watchbillref07_Print.l0 (k : Nat) (a0 : List T_api_Field) : Nat → Str → Int → Option (Str × Int)
  | 0, _, _ => none
  | m5 + 1, x4_1, x5_2 => (if (decide (x5_2 < (a0.length : Int))) = true then (if (0 : Int) ≤ x5_2 ∧ x5_2 < (a0.length : Int) then ((watchbillref07_Named k ((rd a0 x5_2).Name)).bind fun (t7 : Bool) => (if (!t7) = true then some (([] : Str), 12) else (if (0 : Int) ≤ x5_2 ∧ x5_2 < (a0.length : Int) then ((watchbillref07_Printable k ((rd a0 x5_2).Value)).bind fun (t10 : Bool) => (if (!t10) = true then some (([] : Str), 4) else (if (0 : Int) ≤ x5_2 ∧ x5_2 < (a0.length : Int) then ((watchbillref07_print k (rd a0 x5_2)).bind fun (t13 : Str × Bool) => (if (!t13.2) = true then some (([] : Str), 3) else (if x4_1.length + t13.1.length ≤ 9223372036854775807 then watchbillref07_Print.l0 k a0 m5 (x4_1 ++ t13.1) (IntKind.i64.wrap (x5_2 + 1)) else none))) else none))) else none))) else none) else (if x4_1.length + ([13, 10] : Str).length ≤ 9223372036854775807 then some ((x4_1 ++ ([13, 10] : Str)), 0) else none))
def watchbillref07_Print (k : Nat) (a0 : List T_api_Field) : Option (Str × Int) := (if (decide ((a0.length : Int) > 8)) = true then some (([] : Str), 3) else watchbillref07_Print.l0 k a0 k ([] : Str) 0)
theorem watchbillref07_Print.ok {k : Nat} {a0 : List T_api_Field} {r : Str × Int} (H : watchbillref07_Print k a0 = some r) : Vx.Fn Tryd.prog 24 [(L 2 e_api_Field a0)] [] (.tup [(S r.1), (.v (.int .i64 r.2))]) [] := by
  unfold watchbillref07_Print at H
  refine Vx.Fn.of_okR Tryd.func24 rfl (Nat.le_of_ble_eq_true rfl) ?_
  refine Ok.seq ?_
  refine Ok.region (σ' := ⟨[(0, (L 2 e_api_Field a0))], []⟩) ?_ ?_
  · refine .cv (VOk.asg (d := (S ([] : Str))) rfl rfl) rfl rfl ?_
    refine .cv (VOk.asg (d := (.v (.int .i64 0))) rfl rfl) rfl rfl ?_
    exact .done (.rf rfl rfl)
  refine Ok.seq ?_
  refine Ok.seq ?_
  refine Ok.region (σ' := ⟨[(0, (L 2 e_api_Field a0)), (10, (.v (.bool (decide ((a0.length : Int) > 8)))))], []⟩) ?_ ?_
  · refine .cv (VOk.mv (d := (L 2 e_api_Field a0)) rfl rfl) rfl rfl ?_
    refine .cv (VOk.lenL (e := e_api_Field) (xs := a0) rfl Tryd.underlying41 rfl) rfl rfl ?_
    refine .cv (VOk.arith (op := .gtr) (k := .i64) (a := (a0.length : Int)) (b := 8) rfl rfl rfl rfl) rfl rfl ?_
    exact .done (.rf rfl rfl)
  refine Ok.test (b := (decide ((a0.length : Int) > 8))) rfl (fun hb21 => ?_) (fun hb21 => ?_)
  · replace H := ifT H hb21
    refine Ok.seq ?_
    refine Ok.region (σ' := ⟨[(2, (S ([] : Str))), (3, (.v (.int .i64 3)))], []⟩) ?_ ?_
    · refine .cv (VOk.asg (d := (S ([] : Str))) rfl rfl) rfl rfl ?_
      refine .cv (VOk.asg (d := (.v (.int .i64 3))) rfl rfl) rfl rfl ?_
      exact .done (.rf rfl rfl)
    refine Ok.ret ?_
    obtain rfl := Option.some.inj H
    exact ⟨.inl rfl, ⟨_, (.cons (.tmp rfl) (.cons (.tmp rfl) .nil)), rfl⟩, trivial⟩
  · replace H := ifF H hb21
    refine Ok.skip ?_
    refine Ok.seq ?_
    refine Ok.region (σ' := ⟨[(0, (L 2 e_api_Field a0)), (4, (S ([] : Str)))], []⟩) ?_ ?_
    · refine .cv (VOk.asg (d := (S ([] : Str))) rfl rfl) rfl rfl ?_
      exact .done (.rf rfl rfl)
    refine Ok.seq ?_
    refine Ok.seq ?_
    refine Ok.region (σ' := ⟨[(0, (L 2 e_api_Field a0)), (4, (S ([] : Str))), (5, (.v (.int .i64 0)))], []⟩) ?_ ?_
    · refine .cv (VOk.asg (d := (.v (.int .i64 0))) rfl rfl) rfl rfl ?_
      exact .done (.rf rfl rfl)
    refine Ok.block ?_
    refine Ok.le (σ' := ⟨[(0, (L 2 e_api_Field a0)), (4, (S ([] : Str))), (5, (.v (.int .i64 0)))], []⟩) (.rf rfl rfl) ?_
    refine Ok.loop (fun m5 σ => ∃ (x4_1 : Str) (x5_2 : Int), σ = ⟨[(0, (L 2 e_api_Field a0)), (4, (S x4_1)), (5, (.v (.int .i64 x5_2)))], []⟩ ∧ watchbillref07_Print.l0 k a0 m5 x4_1 x5_2 = some r) k ⟨([] : Str), 0, rfl, H⟩ ?_
    rintro m5 σ ⟨x4_1, x5_2, rfl, H⟩
    cases m5 with
    | zero => exact absurd H (by simp [watchbillref07_Print.l0])
    | succ m5 =>
      unfold watchbillref07_Print.l0 at H
      refine Ok.seq ?_
      refine Ok.seq ?_
      refine Ok.region (σ' := ⟨[(0, (L 2 e_api_Field a0)), (4, (S x4_1)), (5, (.v (.int .i64 x5_2))), (14, (.v (.bool (decide (x5_2 < (a0.length : Int))))))], []⟩) ?_ ?_
      · refine .cv (VOk.mv (d := (.v (.int .i64 x5_2))) rfl rfl) rfl rfl ?_
        refine .cv (VOk.mv (d := (L 2 e_api_Field a0)) rfl rfl) rfl rfl ?_
        refine .cv (VOk.lenL (e := e_api_Field) (xs := a0) rfl Tryd.underlying41 rfl) rfl rfl ?_
        refine .cv (VOk.arith (op := .lss) (k := .i64) (a := x5_2) (b := (a0.length : Int)) rfl rfl rfl rfl) rfl rfl ?_
        exact .done (.rf rfl rfl)
      refine Ok.test (b := (decide (x5_2 < (a0.length : Int)))) rfl (fun hb20 => ?_) (fun hb20 => ?_)
      · replace H := ifT H hb20
        refine Ok.skip ?_
        refine Ok.seq ?_
        refine Ok.block ?_
        refine Ok.seq ?_
        refine Ok.seq ?_
        obtain ⟨c6, H⟩ := assertE H
        obtain ⟨t7, h8, H⟩ := bindE H
        refine Ok.region (σ' := ⟨[(0, (L 2 e_api_Field a0)), (4, (S x4_1)), (5, (.v (.int .i64 x5_2))), (23, (.v (.bool (!t7))))], []⟩) ?_ ?_
        · refine .cv (VOk.mv (d := (L 2 e_api_Field a0)) rfl rfl) rfl rfl ?_
          refine .cv (VOk.mv (d := (.v (.int .i64 x5_2))) rfl rfl) rfl rfl ?_
          refine .cv (VOk.indexL (sz := 2) (e := e_api_Field) (xs := a0) (i := x5_2) rfl Tryd.underlying41 sz67 rfl rfl c6) rfl rfl ?_
          refine .cv (VOk.to (VOk.fieldFp rfl Tryd.underlying67 rfl sz9 rfl) rfl) rfl rfl ?_
          refine .cv (VOk.loadFp (d := (S ((rd a0 x5_2).Name))) rfl Tryd.underlying9 rfl rfl rfl) rfl rfl ?_
          refine .cg (GOk.call rfl rfl cl40 rfl (watchbillref07_Named.ok h8) rfl) rfl rfl ?_
          refine .cv (VOk.not (b := t7) rfl rfl) rfl rfl ?_
          exact .done (.rf rfl rfl)
        refine Ok.test (b := (!t7)) rfl (fun hb18 => ?_) (fun hb18 => ?_)
        · replace H := ifT H hb18
          refine Ok.seq ?_
          refine Ok.region (σ' := ⟨[(2, (S ([] : Str))), (3, (.v (.int .i64 12)))], []⟩) ?_ ?_
          · refine .cv (VOk.asg (d := (S ([] : Str))) rfl rfl) rfl rfl ?_
            refine .cv (VOk.asg (d := (.v (.int .i64 12))) rfl rfl) rfl rfl ?_
            exact .done (.rf rfl rfl)
          refine Ok.ret ?_
          obtain rfl := Option.some.inj H
          exact ⟨.inl rfl, ⟨_, (.cons (.tmp rfl) (.cons (.tmp rfl) .nil)), rfl⟩, trivial⟩
        · replace H := ifF H hb18
          refine Ok.skip ?_
          refine Ok.seq ?_
          refine Ok.seq ?_
          obtain ⟨c9, H⟩ := assertE H
          obtain ⟨t10, h11, H⟩ := bindE H
          refine Ok.region (σ' := ⟨[(0, (L 2 e_api_Field a0)), (4, (S x4_1)), (5, (.v (.int .i64 x5_2))), (30, (.v (.bool (!t10))))], []⟩) ?_ ?_
          · refine .cv (VOk.mv (d := (L 2 e_api_Field a0)) rfl rfl) rfl rfl ?_
            refine .cv (VOk.mv (d := (.v (.int .i64 x5_2))) rfl rfl) rfl rfl ?_
            refine .cv (VOk.indexL (sz := 2) (e := e_api_Field) (xs := a0) (i := x5_2) rfl Tryd.underlying41 sz67 rfl rfl c9) rfl rfl ?_
            refine .cv (VOk.to (VOk.fieldFp rfl Tryd.underlying67 rfl sz9 rfl) rfl) rfl rfl ?_
            refine .cv (VOk.loadFp (d := (S ((rd a0 x5_2).Value))) rfl Tryd.underlying9 rfl rfl rfl) rfl rfl ?_
            refine .cg (GOk.call rfl rfl cl41 rfl (watchbillref07_Printable.ok h11) rfl) rfl rfl ?_
            refine .cv (VOk.not (b := t10) rfl rfl) rfl rfl ?_
            exact .done (.rf rfl rfl)
          refine Ok.test (b := (!t10)) rfl (fun hb17 => ?_) (fun hb17 => ?_)
          · replace H := ifT H hb17
            refine Ok.seq ?_
            refine Ok.region (σ' := ⟨[(2, (S ([] : Str))), (3, (.v (.int .i64 4)))], []⟩) ?_ ?_
            · refine .cv (VOk.asg (d := (S ([] : Str))) rfl rfl) rfl rfl ?_
              refine .cv (VOk.asg (d := (.v (.int .i64 4))) rfl rfl) rfl rfl ?_
              exact .done (.rf rfl rfl)
            refine Ok.ret ?_
            obtain rfl := Option.some.inj H
            exact ⟨.inl rfl, ⟨_, (.cons (.tmp rfl) (.cons (.tmp rfl) .nil)), rfl⟩, trivial⟩
          · replace H := ifF H hb17
            refine Ok.skip ?_
            refine Ok.seq ?_
            obtain ⟨c12, H⟩ := assertE H
            obtain ⟨t13, h14, H⟩ := bindE H
            refine Ok.region (σ' := ⟨[(0, (L 2 e_api_Field a0)), (4, (S x4_1)), (5, (.v (.int .i64 x5_2))), (6, (S t13.1)), (7, (.v (.bool t13.2)))], []⟩) ?_ ?_
            · refine .cv (VOk.mv (d := (L 2 e_api_Field a0)) rfl rfl) rfl rfl ?_
              refine .cv (VOk.mv (d := (.v (.int .i64 x5_2))) rfl rfl) rfl rfl ?_
              refine .cv (VOk.indexL (sz := 2) (e := e_api_Field) (xs := a0) (i := x5_2) rfl Tryd.underlying41 sz67 rfl rfl c12) rfl rfl ?_
              refine .cv (VOk.to (d' := (.agg (e_api_Field (rd a0 x5_2)))) (.loadFpAgg rfl Tryd.underlying67 rfl sz67 rfl rfl) rfl) rfl rfl ?_
              refine .cg (GOk.call rfl rfl cl42 rfl (watchbillref07_print.ok h14) rfl) rfl rfl ?_
              refine .cv (VOk.mv (d := (.tup [(S t13.1), (.v (.bool t13.2))])) rfl rfl) rfl rfl ?_
              refine .cv (VOk.extract (d := (S t13.1)) rfl rfl rfl) rfl rfl ?_
              refine .cv (VOk.extract (d := (.v (.bool t13.2))) rfl rfl rfl) rfl rfl ?_
              refine .cv (VOk.asg (d := (S t13.1)) rfl rfl) rfl rfl ?_
              refine .cv (VOk.asg (d := (.v (.bool t13.2))) rfl rfl) rfl rfl ?_
              exact .done (.rf rfl rfl)
            refine Ok.seq ?_
            refine Ok.seq ?_
            refine Ok.region (σ' := ⟨[(0, (L 2 e_api_Field a0)), (4, (S x4_1)), (5, (.v (.int .i64 x5_2))), (6, (S t13.1)), (40, (.v (.bool (!t13.2))))], []⟩) ?_ ?_
            · refine .cv (VOk.mv (d := (.v (.bool t13.2))) rfl rfl) rfl rfl ?_
              refine .cv (VOk.not (b := t13.2) rfl rfl) rfl rfl ?_
              exact .done (.rf rfl rfl)
            refine Ok.test (b := (!t13.2)) rfl (fun hb16 => ?_) (fun hb16 => ?_)
            · replace H := ifT H hb16
              refine Ok.seq ?_
              refine Ok.region (σ' := ⟨[(2, (S ([] : Str))), (3, (.v (.int .i64 3)))], []⟩) ?_ ?_
              · refine .cv (VOk.asg (d := (S ([] : Str))) rfl rfl) rfl rfl ?_
                refine .cv (VOk.asg (d := (.v (.int .i64 3))) rfl rfl) rfl rfl ?_
                exact .done (.rf rfl rfl)
              refine Ok.ret ?_
              obtain rfl := Option.some.inj H
              exact ⟨.inl rfl, ⟨_, (.cons (.tmp rfl) (.cons (.tmp rfl) .nil)), rfl⟩, trivial⟩
            · replace H := ifF H hb16
              refine Ok.skip ?_
              obtain ⟨c15, H⟩ := assertE H
              refine Ok.region (σ' := ⟨[(0, (L 2 e_api_Field a0)), (4, (S (x4_1 ++ t13.1))), (5, (.v (.int .i64 x5_2)))], []⟩) ?_ ?_
              · refine .cv (VOk.mv (d := (S x4_1)) rfl rfl) rfl rfl ?_
                refine .cv (VOk.mv (d := (S t13.1)) rfl rfl) rfl rfl ?_
                refine .cv (VOk.cat (a := x4_1) (b := t13.1) rfl rfl rfl c15) rfl rfl ?_
                refine .cv (VOk.asg (d := (S (x4_1 ++ t13.1))) rfl rfl) rfl rfl ?_
                exact .done (.rf rfl rfl)
              refine Ok.region (σ' := ⟨[(0, (L 2 e_api_Field a0)), (4, (S (x4_1 ++ t13.1))), (5, (.v (.int .i64 (IntKind.i64.wrap (x5_2 + 1)))))], []⟩) ?_ ?_
              · refine .cv (VOk.mv (d := (.v (.int .i64 x5_2))) rfl rfl) rfl rfl ?_
                refine .cv (VOk.arith (op := .add) (k := .i64) (a := x5_2) (b := 1) rfl rfl rfl rfl) rfl rfl ?_
                refine .cv (VOk.asg (d := (.v (.int .i64 (IntKind.i64.wrap (x5_2 + 1))))) rfl rfl) rfl rfl ?_
                exact .done (.rf rfl rfl)
              exact ⟨m5, Nat.lt_succ_self m5, (x4_1 ++ t13.1), (IntKind.i64.wrap (x5_2 + 1)), rfl, H⟩
      · replace H := ifF H hb20
        refine Ok.exit ?_
        refine Ok.seq ?_
        obtain ⟨c19, H⟩ := assertE H
        refine Ok.region (σ' := ⟨[(2, (S (x4_1 ++ ([13, 10] : Str)))), (3, (.v (.int .i64 0)))], []⟩) ?_ ?_
        · refine .cv (VOk.mv (d := (S x4_1)) rfl rfl) rfl rfl ?_
          refine .cv (VOk.cat (a := x4_1) (b := ([13, 10] : Str)) rfl rfl rfl c19) rfl rfl ?_
          refine .cv (VOk.asg (d := (S (x4_1 ++ ([13, 10] : Str)))) rfl rfl) rfl rfl ?_
          refine .cv (VOk.asg (d := (.v (.int .i64 0))) rfl rfl) rfl rfl ?_
          exact .done (.rf rfl rfl)
        refine Ok.ret ?_
        obtain rfl := Option.some.inj H
        exact ⟨.inl rfl, ⟨_, (.cons (.tmp rfl) (.cons (.tmp rfl) .nil)), rfl⟩, trivial⟩

/-! watchbill/watchbillref08.Print: function 10 -/
def watchbillref08_Print.l0 (k : Nat) (a0 : Str) (a1 : List T_api_Part) : Nat → Str → Int → Option (Str × Int)
  | 0, _, _ => none
  | m11 + 1, x6_7, x7_8 => (if (decide (x7_8 < (a1.length : Int))) = true then (if (0 : Int) ≤ x7_8 ∧ x7_8 < (a1.length : Int) then ((watchbillref07_Print k ((rd a1 x7_8).Fields)).bind fun (t13 : Str × Int) => (if (t13.2 != 0) = true then some (([] : Str), t13.2) else (if x6_7.length + ([45, 45] : Str).length ≤ 9223372036854775807 then (if (x6_7 ++ ([45, 45] : Str)).length + a0.length ≤ 9223372036854775807 then (if ((x6_7 ++ ([45, 45] : Str)) ++ a0).length + ([13, 10] : Str).length ≤ 9223372036854775807 then (if (((x6_7 ++ ([45, 45] : Str)) ++ a0) ++ ([13, 10] : Str)).length + t13.1.length ≤ 9223372036854775807 then (if (0 : Int) ≤ x7_8 ∧ x7_8 < (a1.length : Int) then (if ((((x6_7 ++ ([45, 45] : Str)) ++ a0) ++ ([13, 10] : Str)) ++ t13.1).length + ((rd a1 x7_8).Body).length ≤ 9223372036854775807 then (if (((((x6_7 ++ ([45, 45] : Str)) ++ a0) ++ ([13, 10] : Str)) ++ t13.1) ++ ((rd a1 x7_8).Body)).length + ([13, 10] : Str).length ≤ 9223372036854775807 then watchbillref08_Print.l0 k a0 a1 m11 ((((((x6_7 ++ ([45, 45] : Str)) ++ a0) ++ ([13, 10] : Str)) ++ t13.1) ++ ((rd a1 x7_8).Body)) ++ ([13, 10] : Str)) (IntKind.i64.wrap (x7_8 + 1)) else none) else none) else none) else none) else none) else none) else none))) else none) else (if x6_7.length + ([45, 45] : Str).length ≤ 9223372036854775807 then (if (x6_7 ++ ([45, 45] : Str)).length + a0.length ≤ 9223372036854775807 then (if ((x6_7 ++ ([45, 45] : Str)) ++ a0).length + ([45, 45, 13, 10] : Str).length ≤ 9223372036854775807 then some ((((x6_7 ++ ([45, 45] : Str)) ++ a0) ++ ([45, 45, 13, 10] : Str)), 0) else none) else none) else none))
def watchbillref08_Print (k : Nat) (a0 : Str) (a1 : List T_api_Part) : Option (Str × Int) := ((watchbillref08_May k a0).bind fun (t1 : Bool) => (((if ((!t1) == false) = true then watchbillref08_Clashes k a0 a1 else some default)).bind fun (t4 : Bool) => (if ((!t1) || t4) = true then some (([] : Str), 30) else (if (decide ((a1.length : Int) > 40)) = true then some (([] : Str), 3) else (if ((a1.length : Int) == 0) = true then some (([] : Str), 2) else watchbillref08_Print.l0 k a0 a1 k ([] : Str) 0)))))
theorem watchbillref08_Print.ok {k : Nat} {a0 : Str} {a1 : List T_api_Part} {r : Str × Int} (H : watchbillref08_Print k a0 a1 = some r) : Vx.Fn Tryd.prog 10 [(S a0), (L 2 e_api_Part a1)] [] (.tup [(S r.1), (.v (.int .i64 r.2))]) [] := by
  unfold watchbillref08_Print at H
  refine Vx.Fn.of_okR Tryd.func10 rfl (Nat.le_of_ble_eq_true rfl) ?_
  refine Ok.seq ?_
  refine Ok.region (σ' := ⟨[(0, (S a0)), (1, (L 2 e_api_Part a1))], []⟩) ?_ ?_
  · refine .cv (VOk.asg (d := (S ([] : Str))) rfl rfl) rfl rfl ?_
    refine .cv (VOk.asg (d := (.v (.int .i64 0))) rfl rfl) rfl rfl ?_
    exact .done (.rf rfl rfl)
  refine Ok.seq ?_
  refine Ok.seq ?_
  obtain ⟨t1, h2, H⟩ := bindE H
  obtain ⟨t4, h5, H⟩ := bindE H
  refine Ok.region (σ' := ⟨[(0, (S a0)), (1, (L 2 e_api_Part a1)), (17, (.v (.bool ((!t1) || t4))))], []⟩) ?_ ?_
  · refine .cv (VOk.mv (d := (S a0)) rfl rfl) rfl rfl ?_
    refine .cg (GOk.call rfl rfl cl16 rfl (watchbillref08_May.ok h2) rfl) rfl rfl ?_
    refine .cv (VOk.not (b := t1) rfl rfl) rfl rfl ?_
    refine .cv (VOk.mv (d := (.v (.bool (!t1)))) rfl rfl) rfl rfl ?_
    refine OpsOk.consI rfl rfl rfl (.one rfl) rfl (fun hw3 => (VOk.g (VOk.mv (d := (S a0)) rfl rfl))) ?_
    refine OpsOk.consI rfl rfl rfl (.one rfl) rfl (fun hw3 => (VOk.g (VOk.mv (d := (L 2 e_api_Part a1)) rfl rfl))) ?_
    refine OpsOk.consI rfl rfl rfl (.one rfl) rfl (fun hw3 => (GOk.fr (fr' := [(14, (S a0)), (15, (L 2 e_api_Part a1))]) ⟨DLe.of_eq (cT hw3).symm, DLe.of_eq (cT hw3).symm, trivial⟩ (GOk.call rfl rfl cl17 rfl (watchbillref08_Clashes.ok (ifT h5 hw3)) rfl))) ?_
    refine .cv (VOk.to (VOk.pickI (b := (!t1)) (p := true) (q := t4) rfl rfl (fun hp6 => rfl) (fun hp6 => (cT (f_beq hp6)))) (pickOr (!t1) t4)) rfl rfl ?_
    exact .done (.rf rfl rfl)
  refine Ok.test (b := ((!t1) || t4)) rfl (fun hb29 => ?_) (fun hb29 => ?_)
  · replace H := ifT H hb29
    refine Ok.seq ?_
    refine Ok.region (σ' := ⟨[(4, (S ([] : Str))), (5, (.v (.int .i64 30)))], []⟩) ?_ ?_
    · refine .cv (VOk.asg (d := (S ([] : Str))) rfl rfl) rfl rfl ?_
      refine .cv (VOk.asg (d := (.v (.int .i64 30))) rfl rfl) rfl rfl ?_
      exact .done (.rf rfl rfl)
    refine Ok.ret ?_
    obtain rfl := Option.some.inj H
    exact ⟨.inl rfl, ⟨_, (.cons (.tmp rfl) (.cons (.tmp rfl) .nil)), rfl⟩, trivial⟩
  · replace H := ifF H hb29
    refine Ok.skip ?_
    refine Ok.seq ?_
    refine Ok.seq ?_
    refine Ok.region (σ' := ⟨[(0, (S a0)), (1, (L 2 e_api_Part a1)), (20, (.v (.bool (decide ((a1.length : Int) > 40)))))], []⟩) ?_ ?_
    · refine .cv (VOk.mv (d := (L 2 e_api_Part a1)) rfl rfl) rfl rfl ?_
      refine .cv (VOk.lenL (e := e_api_Part) (xs := a1) rfl Tryd.underlying22 rfl) rfl rfl ?_
      refine .cv (VOk.arith (op := .gtr) (k := .i64) (a := (a1.length : Int)) (b := 40) rfl rfl rfl rfl) rfl rfl ?_
      exact .done (.rf rfl rfl)
    refine Ok.test (b := (decide ((a1.length : Int) > 40))) rfl (fun hb28 => ?_) (fun hb28 => ?_)
    · replace H := ifT H hb28
      refine Ok.seq ?_
      refine Ok.region (σ' := ⟨[(4, (S ([] : Str))), (5, (.v (.int .i64 3)))], []⟩) ?_ ?_
      · refine .cv (VOk.asg (d := (S ([] : Str))) rfl rfl) rfl rfl ?_
        refine .cv (VOk.asg (d := (.v (.int .i64 3))) rfl rfl) rfl rfl ?_
        exact .done (.rf rfl rfl)
      refine Ok.ret ?_
      obtain rfl := Option.some.inj H
      exact ⟨.inl rfl, ⟨_, (.cons (.tmp rfl) (.cons (.tmp rfl) .nil)), rfl⟩, trivial⟩
    · replace H := ifF H hb28
      refine Ok.skip ?_
      refine Ok.seq ?_
      refine Ok.seq ?_
      refine Ok.region (σ' := ⟨[(0, (S a0)), (1, (L 2 e_api_Part a1)), (23, (.v (.bool ((a1.length : Int) == 0))))], []⟩) ?_ ?_
      · refine .cv (VOk.mv (d := (L 2 e_api_Part a1)) rfl rfl) rfl rfl ?_
        refine .cv (VOk.lenL (e := e_api_Part) (xs := a1) rfl Tryd.underlying22 rfl) rfl rfl ?_
        refine .cv (VOk.arith (op := .eql) (k := .i64) (a := (a1.length : Int)) (b := 0) rfl rfl rfl rfl) rfl rfl ?_
        exact .done (.rf rfl rfl)
      refine Ok.test (b := ((a1.length : Int) == 0)) rfl (fun hb27 => ?_) (fun hb27 => ?_)
      · replace H := ifT H hb27
        refine Ok.seq ?_
        refine Ok.region (σ' := ⟨[(4, (S ([] : Str))), (5, (.v (.int .i64 2)))], []⟩) ?_ ?_
        · refine .cv (VOk.asg (d := (S ([] : Str))) rfl rfl) rfl rfl ?_
          refine .cv (VOk.asg (d := (.v (.int .i64 2))) rfl rfl) rfl rfl ?_
          exact .done (.rf rfl rfl)
        refine Ok.ret ?_
        obtain rfl := Option.some.inj H
        exact ⟨.inl rfl, ⟨_, (.cons (.tmp rfl) (.cons (.tmp rfl) .nil)), rfl⟩, trivial⟩
      · replace H := ifF H hb27
        refine Ok.skip ?_
        refine Ok.seq ?_
        refine Ok.region (σ' := ⟨[(0, (S a0)), (1, (L 2 e_api_Part a1)), (6, (S ([] : Str)))], []⟩) ?_ ?_
        · refine .cv (VOk.asg (d := (S ([] : Str))) rfl rfl) rfl rfl ?_
          exact .done (.rf rfl rfl)
        refine Ok.seq ?_
        refine Ok.seq ?_
        refine Ok.region (σ' := ⟨[(0, (S a0)), (1, (L 2 e_api_Part a1)), (6, (S ([] : Str))), (7, (.v (.int .i64 0)))], []⟩) ?_ ?_
        · refine .cv (VOk.asg (d := (.v (.int .i64 0))) rfl rfl) rfl rfl ?_
          exact .done (.rf rfl rfl)
        refine Ok.block ?_
        refine Ok.le (σ' := ⟨[(0, (S a0)), (1, (L 2 e_api_Part a1)), (6, (S ([] : Str))), (7, (.v (.int .i64 0)))], []⟩) (.rf rfl rfl) ?_
        refine Ok.loop (fun m11 σ => ∃ (x6_7 : Str) (x7_8 : Int), σ = ⟨[(0, (S a0)), (1, (L 2 e_api_Part a1)), (6, (S x6_7)), (7, (.v (.int .i64 x7_8)))], []⟩ ∧ watchbillref08_Print.l0 k a0 a1 m11 x6_7 x7_8 = some r) k ⟨([] : Str), 0, rfl, H⟩ ?_
        rintro m11 σ ⟨x6_7, x7_8, rfl, H⟩
        cases m11 with
        | zero => exact absurd H (by simp [watchbillref08_Print.l0])
        | succ m11 =>
          unfold watchbillref08_Print.l0 at H
          refine Ok.seq ?_
          refine Ok.seq ?_
          refine Ok.region (σ' := ⟨[(0, (S a0)), (1, (L 2 e_api_Part a1)), (6, (S x6_7)), (7, (.v (.int .i64 x7_8))), (27, (.v (.bool (decide (x7_8 < (a1.length : Int))))))], []⟩) ?_ ?_
          · refine .cv (VOk.mv (d := (.v (.int .i64 x7_8))) rfl rfl) rfl rfl ?_
            refine .cv (VOk.mv (d := (L 2 e_api_Part a1)) rfl rfl) rfl rfl ?_
            refine .cv (VOk.lenL (e := e_api_Part) (xs := a1) rfl Tryd.underlying22 rfl) rfl rfl ?_
            refine .cv (VOk.arith (op := .lss) (k := .i64) (a := x7_8) (b := (a1.length : Int)) rfl rfl rfl rfl) rfl rfl ?_
            exact .done (.rf rfl rfl)
          refine Ok.test (b := (decide (x7_8 < (a1.length : Int)))) rfl (fun hb26 => ?_) (fun hb26 => ?_)
          · replace H := ifT H hb26
            refine Ok.skip ?_
            refine Ok.seq ?_
            refine Ok.block ?_
            refine Ok.seq ?_
            obtain ⟨c12, H⟩ := assertE H
            obtain ⟨t13, h14, H⟩ := bindE H
            refine Ok.region (σ' := ⟨[(0, (S a0)), (1, (L 2 e_api_Part a1)), (6, (S x6_7)), (7, (.v (.int .i64 x7_8))), (8, (S t13.1)), (9, (.v (.int .i64 t13.2)))], []⟩) ?_ ?_
            · refine .cv (VOk.mv (d := (L 2 e_api_Part a1)) rfl rfl) rfl rfl ?_
              refine .cv (VOk.mv (d := (.v (.int .i64 x7_8))) rfl rfl) rfl rfl ?_
              refine .cv (VOk.indexL (sz := 2) (e := e_api_Part) (xs := a1) (i := x7_8) rfl Tryd.underlying22 sz43 rfl rfl c12) rfl rfl ?_
              refine .cv (VOk.to (VOk.fieldFp rfl Tryd.underlying43 rfl sz41 rfl) rfl) rfl rfl ?_
              refine .cv (VOk.loadFp (d := (L 2 e_api_Field ((rd a1 x7_8).Fields))) rfl Tryd.underlying41 rfl rfl rfl) rfl rfl ?_
              refine .cg (GOk.call rfl rfl cl24 rfl (watchbillref07_Print.ok h14) rfl) rfl rfl ?_
              refine .cv (VOk.mv (d := (.tup [(S t13.1), (.v (.int .i64 t13.2))])) rfl rfl) rfl rfl ?_
              refine .cv (VOk.extract (d := (S t13.1)) rfl rfl rfl) rfl rfl ?_
              refine .cv (VOk.extract (d := (.v (.int .i64 t13.2))) rfl rfl rfl) rfl rfl ?_
              refine .cv (VOk.asg (d := (S t13.1)) rfl rfl) rfl rfl ?_
              refine .cv (VOk.asg (d := (.v (.int .i64 t13.2))) rfl rfl) rfl rfl ?_
              exact .done (.rf rfl rfl)
            refine Ok.seq ?_
            refine Ok.seq ?_
            refine Ok.region (σ' := ⟨[(0, (S a0)), (1, (L 2 e_api_Part a1)), (6, (S x6_7)), (7, (.v (.int .i64 x7_8))), (8, (S t13.1)), (9, (.v (.int .i64 t13.2))), (40, (.v (.bool (t13.2 != 0))))], []⟩) ?_ ?_
            · refine .cv (VOk.mv (d := (.v (.int .i64 t13.2))) rfl rfl) rfl rfl ?_
              refine .cv (VOk.arith (op := .neq) (k := .i64) (a := t13.2) (b := 0) rfl rfl rfl rfl) rfl rfl ?_
              exact .done (.rf rfl rfl)
            refine Ok.test (b := (t13.2 != 0)) rfl (fun hb22 => ?_) (fun hb22 => ?_)
            · replace H := ifT H hb22
              refine Ok.seq ?_
              refine Ok.region (σ' := ⟨[(4, (S ([] : Str))), (5, (.v (.int .i64 t13.2)))], []⟩) ?_ ?_
              · refine .cv (VOk.mv (d := (.v (.int .i64 t13.2))) rfl rfl) rfl rfl ?_
                refine .cv (VOk.asg (d := (S ([] : Str))) rfl rfl) rfl rfl ?_
                refine .cv (VOk.asg (d := (.v (.int .i64 t13.2))) rfl rfl) rfl rfl ?_
                exact .done (.rf rfl rfl)
              refine Ok.ret ?_
              obtain rfl := Option.some.inj H
              exact ⟨.inl rfl, ⟨_, (.cons (.tmp rfl) (.cons (.tmp rfl) .nil)), rfl⟩, trivial⟩
            · replace H := ifF H hb22
              refine Ok.skip ?_
              obtain ⟨c15, H⟩ := assertE H
              obtain ⟨c16, H⟩ := assertE H
              obtain ⟨c17, H⟩ := assertE H
              obtain ⟨c18, H⟩ := assertE H
              obtain ⟨c19, H⟩ := assertE H
              obtain ⟨c20, H⟩ := assertE H
              obtain ⟨c21, H⟩ := assertE H
              refine Ok.region (σ' := ⟨[(0, (S a0)), (1, (L 2 e_api_Part a1)), (6, (S ((((((x6_7 ++ ([45, 45] : Str)) ++ a0) ++ ([13, 10] : Str)) ++ t13.1) ++ ((rd a1 x7_8).Body)) ++ ([13, 10] : Str)))), (7, (.v (.int .i64 x7_8)))], []⟩) ?_ ?_
              · refine .cv (VOk.mv (d := (S x6_7)) rfl rfl) rfl rfl ?_
                refine .cv (VOk.cat (a := x6_7) (b := ([45, 45] : Str)) rfl rfl rfl c15) rfl rfl ?_
                refine .cv (VOk.mv (d := (S a0)) rfl rfl) rfl rfl ?_
                refine .cv (VOk.cat (a := (x6_7 ++ ([45, 45] : Str))) (b := a0) rfl rfl rfl c16) rfl rfl ?_
                refine .cv (VOk.cat (a := ((x6_7 ++ ([45, 45] : Str)) ++ a0)) (b := ([13, 10] : Str)) rfl rfl rfl c17) rfl rfl ?_
                refine .cv (VOk.mv (d := (S t13.1)) rfl rfl) rfl rfl ?_
                refine .cv (VOk.cat (a := (((x6_7 ++ ([45, 45] : Str)) ++ a0) ++ ([13, 10] : Str))) (b := t13.1) rfl rfl rfl c18) rfl rfl ?_
                refine .cv (VOk.mv (d := (L 2 e_api_Part a1)) rfl rfl) rfl rfl ?_
                refine .cv (VOk.mv (d := (.v (.int .i64 x7_8))) rfl rfl) rfl rfl ?_
                refine .cv (VOk.indexL (sz := 2) (e := e_api_Part) (xs := a1) (i := x7_8) rfl Tryd.underlying22 sz43 rfl rfl c19) rfl rfl ?_
                refine .cv (VOk.to (VOk.fieldFp rfl Tryd.underlying43 rfl sz9 rfl) rfl) rfl rfl ?_
                refine .cv (VOk.loadFp (d := (S ((rd a1 x7_8).Body))) rfl Tryd.underlying9 rfl rfl rfl) rfl rfl ?_
                refine .cv (VOk.cat (a := ((((x6_7 ++ ([45, 45] : Str)) ++ a0) ++ ([13, 10] : Str)) ++ t13.1)) (b := (rd a1 x7_8).Body) rfl rfl rfl c20) rfl rfl ?_
                refine .cv (VOk.cat (a := (((((x6_7 ++ ([45, 45] : Str)) ++ a0) ++ ([13, 10] : Str)) ++ t13.1) ++ ((rd a1 x7_8).Body))) (b := ([13, 10] : Str)) rfl rfl rfl c21) rfl rfl ?_
                refine .cv (VOk.asg (d := (S ((((((x6_7 ++ ([45, 45] : Str)) ++ a0) ++ ([13, 10] : Str)) ++ t13.1) ++ ((rd a1 x7_8).Body)) ++ ([13, 10] : Str)))) rfl rfl) rfl rfl ?_
                exact .done (.rf rfl rfl)
              refine Ok.region (σ' := ⟨[(0, (S a0)), (1, (L 2 e_api_Part a1)), (6, (S ((((((x6_7 ++ ([45, 45] : Str)) ++ a0) ++ ([13, 10] : Str)) ++ t13.1) ++ ((rd a1 x7_8).Body)) ++ ([13, 10] : Str)))), (7, (.v (.int .i64 (IntKind.i64.wrap (x7_8 + 1)))))], []⟩) ?_ ?_
              · refine .cv (VOk.mv (d := (.v (.int .i64 x7_8))) rfl rfl) rfl rfl ?_
                refine .cv (VOk.arith (op := .add) (k := .i64) (a := x7_8) (b := 1) rfl rfl rfl rfl) rfl rfl ?_
                refine .cv (VOk.asg (d := (.v (.int .i64 (IntKind.i64.wrap (x7_8 + 1))))) rfl rfl) rfl rfl ?_
                exact .done (.rf rfl rfl)
              exact ⟨m11, Nat.lt_succ_self m11, ((((((x6_7 ++ ([45, 45] : Str)) ++ a0) ++ ([13, 10] : Str)) ++ t13.1) ++ ((rd a1 x7_8).Body)) ++ ([13, 10] : Str)), (IntKind.i64.wrap (x7_8 + 1)), rfl, H⟩
          · replace H := ifF H hb26
            refine Ok.exit ?_
            refine Ok.seq ?_
            obtain ⟨c23, H⟩ := assertE H
            obtain ⟨c24, H⟩ := assertE H
            obtain ⟨c25, H⟩ := assertE H
            refine Ok.region (σ' := ⟨[(4, (S (((x6_7 ++ ([45, 45] : Str)) ++ a0) ++ ([45, 45, 13, 10] : Str)))), (5, (.v (.int .i64 0)))], []⟩) ?_ ?_
            · refine .cv (VOk.mv (d := (S x6_7)) rfl rfl) rfl rfl ?_
              refine .cv (VOk.cat (a := x6_7) (b := ([45, 45] : Str)) rfl rfl rfl c23) rfl rfl ?_
              refine .cv (VOk.mv (d := (S a0)) rfl rfl) rfl rfl ?_
              refine .cv (VOk.cat (a := (x6_7 ++ ([45, 45] : Str))) (b := a0) rfl rfl rfl c24) rfl rfl ?_
              refine .cv (VOk.cat (a := ((x6_7 ++ ([45, 45] : Str)) ++ a0)) (b := ([45, 45, 13, 10] : Str)) rfl rfl rfl c25) rfl rfl ?_
              refine .cv (VOk.asg (d := (S (((x6_7 ++ ([45, 45] : Str)) ++ a0) ++ ([45, 45, 13, 10] : Str)))) rfl rfl) rfl rfl ?_
              refine .cv (VOk.asg (d := (.v (.int .i64 0))) rfl rfl) rfl rfl ?_
              exact .done (.rf rfl rfl)
            refine Ok.ret ?_
            obtain rfl := Option.some.inj H
            exact ⟨.inl rfl, ⟨_, (.cons (.tmp rfl) (.cons (.tmp rfl) .nil)), rfl⟩, trivial⟩

/-! watchbill/watchbillref08.digits: function 26 -/
def watchbillref08_digits : Nat → Int → Option Str
  | 0, _ => none
  | k + 1, a0 => (if (a0 == 0) = true then some ([] : Str) else (((watchbillref08_digits k) (IntKind.i64.wrap ((a0).tdiv 10))).bind fun (t1 : Str) => (if t1.length + (strOfBytes ([(IntKind.u8.wrap (IntKind.i64.wrap (48 + ((a0).tmod 10))))] : List Int)).length ≤ 9223372036854775807 then some (t1 ++ (strOfBytes ([(IntKind.u8.wrap (IntKind.i64.wrap (48 + ((a0).tmod 10))))] : List Int))) else none)))
theorem watchbillref08_digits.ok {k : Nat} {a0 : Int} {r : Str} (H : watchbillref08_digits k a0 = some r) : Vx.Fn Tryd.prog 26 [(.v (.int .i64 a0))] [] (S r) [] := by
  induction k generalizing a0 r with
  | zero => exact absurd H (by simp [watchbillref08_digits])
  | succ k ih =>
    unfold watchbillref08_digits at H
    refine Vx.Fn.of_okR Tryd.func26 rfl (Nat.le_of_ble_eq_true rfl) ?_
    refine Ok.seq ?_
    refine Ok.region (σ' := ⟨[(0, (.v (.int .i64 a0)))], []⟩) ?_ ?_
    · refine .cv (VOk.asg (d := (S ([] : Str))) rfl rfl) rfl rfl ?_
      exact .done (.rf rfl rfl)
    refine Ok.seq ?_
    refine Ok.seq ?_
    refine Ok.region (σ' := ⟨[(0, (.v (.int .i64 a0))), (4, (.v (.bool (a0 == 0))))], []⟩) ?_ ?_
    · refine .cv (VOk.mv (d := (.v (.int .i64 a0))) rfl rfl) rfl rfl ?_
      refine .cv (VOk.arith (op := .eql) (k := .i64) (a := a0) (b := 0) rfl rfl rfl rfl) rfl rfl ?_
      exact .done (.rf rfl rfl)
    refine Ok.test (b := (a0 == 0)) rfl (fun hb4 => ?_) (fun hb4 => ?_)
    · replace H := ifT H hb4
      refine Ok.seq ?_
      refine Ok.region (σ' := ⟨[(2, (S ([] : Str)))], []⟩) ?_ ?_
      · refine .cv (VOk.asg (d := (S ([] : Str))) rfl rfl) rfl rfl ?_
        exact .done (.rf rfl rfl)
      refine Ok.ret ?_
      obtain rfl := Option.some.inj H
      exact ⟨.inl rfl, ⟨_, (.cons (.tmp rfl) .nil), rfl⟩, trivial⟩
    · replace H := ifF H hb4
      refine Ok.skip ?_
      refine Ok.seq ?_
      obtain ⟨t1, h2, H⟩ := bindE H
      obtain ⟨c3, H⟩ := assertE H
      refine Ok.drawE (σ' := ⟨[(2, (S (t1 ++ (strOfBytes ([(IntKind.u8.wrap (IntKind.i64.wrap (48 + ((a0).tmod 10))))] : List Int)))))], []⟩) [⟨true, [(0, (.v (.int .i64 a0)))], (.v (.int .i64 a0))⟩, ⟨true, [(5, (.v (.int .i64 a0)))], (.v (.int .i64 (IntKind.i64.wrap ((a0).tdiv 10))))⟩, ⟨true, [(6, (.v (.int .i64 (IntKind.i64.wrap ((a0).tdiv 10)))))], (S t1)⟩, ⟨true, [(0, (.v (.int .i64 a0)))], (.v (.int .i64 a0))⟩, ⟨true, [(8, (.v (.int .i64 a0)))], (.v (.int .i64 ((a0).tmod 10)))⟩, ⟨true, [(9, (.v (.int .i64 ((a0).tmod 10))))], (.v (.int .i64 (IntKind.i64.wrap (48 + ((a0).tmod 10)))))⟩, ⟨true, [(10, (.v (.int .i64 (IntKind.i64.wrap (48 + ((a0).tmod 10))))))], (.v (.int .u8 (IntKind.u8.wrap (IntKind.i64.wrap (48 + ((a0).tmod 10))))))⟩, ⟨true, [(11, (.v (.int .u8 (IntKind.u8.wrap (IntKind.i64.wrap (48 + ((a0).tmod 10)))))))], (L 1 (eI .u8) ([(IntKind.u8.wrap (IntKind.i64.wrap (48 + ((a0).tmod 10))))] : List Int))⟩, ⟨true, [(12, (L 1 (eI .u8) ([(IntKind.u8.wrap (IntKind.i64.wrap (48 + ((a0).tmod 10))))] : List Int)))], (S (strOfBytes ([(IntKind.u8.wrap (IntKind.i64.wrap (48 + ((a0).tmod 10))))] : List Int)))⟩, ⟨true, [(7, (S t1)), (13, (S (strOfBytes ([(IntKind.u8.wrap (IntKind.i64.wrap (48 + ((a0).tmod 10))))] : List Int))))], (S (t1 ++ (strOfBytes ([(IntKind.u8.wrap (IntKind.i64.wrap (48 + ((a0).tmod 10))))] : List Int))))⟩, ⟨true, [(14, (S (t1 ++ (strOfBytes ([(IntKind.u8.wrap (IntKind.i64.wrap (48 + ((a0).tmod 10))))] : List Int)))))], (S (t1 ++ (strOfBytes ([(IntKind.u8.wrap (IntKind.i64.wrap (48 + ((a0).tmod 10))))] : List Int))))⟩] [[], [0], [1], [], [3], [4], [5], [6], [7], [2, 8], [9]] mixed (by kernel_rfl) ?_ ?_
      · refine TxtE.cons rfl ⟨.same _, trivial⟩ rfl (VOk.g (VOk.mv (d := (.v (.int .i64 a0))) rfl rfl)) ?_
        refine TxtE.cons rfl ⟨.same _, trivial⟩ rfl (VOk.g (VOk.quo (a := a0) (b := 10) rfl rfl rfl (by decide))) ?_
        refine TxtE.cons rfl ⟨.same _, trivial⟩ rfl (GOk.call rfl rfl cl26 rfl (@ih _ _ h2) rfl) ?_
        refine TxtE.cons rfl ⟨.same _, trivial⟩ rfl (VOk.g (VOk.mv (d := (.v (.int .i64 a0))) rfl rfl)) ?_
        refine TxtE.cons rfl ⟨.same _, trivial⟩ rfl (VOk.g (VOk.rem (a := a0) (b := 10) rfl rfl rfl (by decide))) ?_
        refine TxtE.cons rfl ⟨.same _, trivial⟩ rfl (VOk.g (VOk.arith (op := .add) (k := .i64) (a := 48) (b := ((a0).tmod 10)) rfl rfl rfl rfl)) ?_
        refine TxtE.cons rfl ⟨.same _, trivial⟩ rfl (VOk.g (VOk.convInt (a := (IntKind.i64.wrap (48 + ((a0).tmod 10)))) rfl (by rw [Tryd.underlying3]; rfl) Tryd.underlying5 rfl)) ?_
        refine TxtE.cons rfl ⟨.same _, trivial⟩ rfl (GOk.to (d' := (L 1 (eI .u8) ([(IntKind.u8.wrap (IntKind.i64.wrap (48 + ((a0).tmod 10))))] : List Int))) (GOk.lit rfl Tryd.underlying46 sz5 zs5 rfl rfl rfl rfl) rfl) ?_
        refine TxtE.cons rfl ⟨.same _, trivial⟩ rfl (VOk.g (VOk.bytesStr (xs := ([(IntKind.u8.wrap (IntKind.i64.wrap (48 + ((a0).tmod 10))))] : List Int)) rfl Tryd.underlying46 Tryd.underlying5 Tryd.underlying9 rfl)) ?_
        refine TxtE.cons rfl ⟨.same _, .same _, trivial⟩ rfl (VOk.g (VOk.cat (a := t1) (b := (strOfBytes ([(IntKind.u8.wrap (IntKind.i64.wrap (48 + ((a0).tmod 10))))] : List Int))) rfl rfl rfl c3)) ?_
        refine TxtE.cons rfl ⟨.same _, trivial⟩ rfl (VOk.g (VOk.asg (d := (S (t1 ++ (strOfBytes ([(IntKind.u8.wrap (IntKind.i64.wrap (48 + ((a0).tmod 10))))] : List Int))))) rfl rfl)) ?_
        exact .done (.rf rfl rfl)
      refine Ok.ret ?_
      obtain rfl := Option.some.inj H
      exact ⟨.inl rfl, ⟨_, (.cons (.tmp rfl) .nil), rfl⟩, trivial⟩

/-! watchbill/watchbillref08.Choose: function 12 -/
def watchbillref08_Choose.l0 (k : Nat) (a0 : List T_api_Part) : Nat → Int → Option Str
  | 0, _ => none
  | m3 + 1, x3_1 => ((watchbillref08_digits k x3_1).bind fun (t4 : Str) => (if ([119, 98] : Str).length + t4.length ≤ 9223372036854775807 then ((watchbillref08_Clashes k (([119, 98] : Str) ++ t4) a0).bind fun (t7 : Bool) => (if t7 = true then watchbillref08_Choose.l0 k a0 m3 (IntKind.i64.wrap (x3_1 + 1)) else ((watchbillref08_digits k x3_1).bind fun (t9 : Str) => (if ([119, 98] : Str).length + t9.length ≤ 9223372036854775807 then some (([119, 98] : Str) ++ t9) else none)))) else none))
def watchbillref08_Choose (k : Nat) (a0 : List T_api_Part) : Option Str := watchbillref08_Choose.l0 k a0 k 1
theorem watchbillref08_Choose.ok {k : Nat} {a0 : List T_api_Part} {r : Str} (H : watchbillref08_Choose k a0 = some r) : Vx.Fn Tryd.prog 12 [(L 2 e_api_Part a0)] [] (S r) [] := by
  unfold watchbillref08_Choose at H
  refine Vx.Fn.of_okR Tryd.func12 rfl (Nat.le_of_ble_eq_true rfl) ?_
  refine Ok.seq ?_
  refine Ok.region (σ' := ⟨[(0, (L 2 e_api_Part a0))], []⟩) ?_ ?_
  · refine .cv (VOk.asg (d := (S ([] : Str))) rfl rfl) rfl rfl ?_
    exact .done (.rf rfl rfl)
  refine Ok.seq ?_
  refine Ok.region (σ' := ⟨[(0, (L 2 e_api_Part a0)), (3, (.v (.int .i64 1)))], []⟩) ?_ ?_
  · refine .cv (VOk.asg (d := (.v (.int .i64 1))) rfl rfl) rfl rfl ?_
    exact .done (.rf rfl rfl)
  refine Ok.seq ?_
  refine Ok.block ?_
  refine Ok.le (σ' := ⟨[(0, (L 2 e_api_Part a0)), (3, (.v (.int .i64 1)))], []⟩) (.rf rfl rfl) ?_
  refine Ok.loop (fun m3 σ => ∃ (x3_1 : Int), σ = ⟨[(0, (L 2 e_api_Part a0)), (3, (.v (.int .i64 x3_1)))], []⟩ ∧ watchbillref08_Choose.l0 k a0 m3 x3_1 = some r) k ⟨1, rfl, H⟩ ?_
  rintro m3 σ ⟨x3_1, rfl, H⟩
  cases m3 with
  | zero => exact absurd H (by simp [watchbillref08_Choose.l0])
  | succ m3 =>
    unfold watchbillref08_Choose.l0 at H
    refine Ok.seq ?_
    refine Ok.seq ?_
    obtain ⟨t4, h5, H⟩ := bindE H
    obtain ⟨c6, H⟩ := assertE H
    obtain ⟨t7, h8, H⟩ := bindE H
    refine Ok.region (σ' := ⟨[(0, (L 2 e_api_Part a0)), (3, (.v (.int .i64 x3_1))), (8, (.v (.bool t7)))], []⟩) ?_ ?_
    · refine .cv (VOk.mv (d := (.v (.int .i64 x3_1))) rfl rfl) rfl rfl ?_
      refine .cg (GOk.call rfl rfl cl26 rfl (watchbillref08_digits.ok h5) rfl) rfl rfl ?_
      refine .cv (VOk.cat (a := ([119, 98] : Str)) (b := t4) rfl rfl rfl c6) rfl rfl ?_
      refine .cv (VOk.mv (d := (L 2 e_api_Part a0)) rfl rfl) rfl rfl ?_
      refine .cg (GOk.call rfl rfl cl17 rfl (watchbillref08_Clashes.ok h8) rfl) rfl rfl ?_
      exact .done (.rf rfl rfl)
    refine Ok.test (b := t7) rfl (fun hb12 => ?_) (fun hb12 => ?_)
    · replace H := ifT H hb12
      refine Ok.skip ?_
      refine Ok.block ?_
      refine Ok.region (σ' := ⟨[(0, (L 2 e_api_Part a0)), (3, (.v (.int .i64 (IntKind.i64.wrap (x3_1 + 1)))))], []⟩) ?_ ?_
      · refine .cv (VOk.mv (d := (.v (.int .i64 x3_1))) rfl rfl) rfl rfl ?_
        refine .cv (VOk.arith (op := .add) (k := .i64) (a := x3_1) (b := 1) rfl rfl rfl rfl) rfl rfl ?_
        refine .cv (VOk.asg (d := (.v (.int .i64 (IntKind.i64.wrap (x3_1 + 1))))) rfl rfl) rfl rfl ?_
        exact .done (.rf rfl rfl)
      exact ⟨m3, Nat.lt_succ_self m3, (IntKind.i64.wrap (x3_1 + 1)), rfl, H⟩
    · replace H := ifF H hb12
      refine Ok.exit ?_
      refine Ok.seq ?_
      obtain ⟨t9, h10, H⟩ := bindE H
      obtain ⟨c11, H⟩ := assertE H
      refine Ok.region (σ' := ⟨[(2, (S (([119, 98] : Str) ++ t9)))], []⟩) ?_ ?_
      · refine .cv (VOk.mv (d := (.v (.int .i64 x3_1))) rfl rfl) rfl rfl ?_
        refine .cg (GOk.call rfl rfl cl26 rfl (watchbillref08_digits.ok h10) rfl) rfl rfl ?_
        refine .cv (VOk.cat (a := ([119, 98] : Str)) (b := t9) rfl rfl rfl c11) rfl rfl ?_
        refine .cv (VOk.asg (d := (S (([119, 98] : Str) ++ t9))) rfl rfl) rfl rfl ?_
        exact .done (.rf rfl rfl)
      refine Ok.ret ?_
      obtain rfl := Option.some.inj H
      exact ⟨.inl rfl, ⟨_, (.cons (.tmp rfl) .nil), rfl⟩, trivial⟩

/-! watchbill/watchbilllaw08.PartPrints: function 3 -/
def watchbilllaw08_PartPrints (k : Nat) (a0 : Str) (a1 : List T_api_Part) : Option Bool := ((watchbilllaw08_awake k).bind fun (t1 : Bool) => (if (!t1) = true then some false else ((watchbilllaw08_Few k a1).bind fun (t3 : Bool) => (if ((!t3) || (decide ((a0.length : Int) > 2000))) = true then some true else (if (([] : List T_api_Part).length + a1.length) * 40 ≤ 140737488355328 then ((part_Print k a0 (([] : List T_api_Part) ++ a1)).bind fun (t8 : Str × Int) => ((watchbillref08_Print k a0 a1).bind fun (t10 : Str × Int) => (((if (((t8.1 == t10.1) && (t8.2 == t10.2)) == true) = true then part_Choose k a1 else some default)).bind fun (t15 : Str) => (((if (((t8.1 == t10.1) && (t8.2 == t10.2)) == true) = true then watchbillref08_Choose k a1 else some default)).bind fun (t17 : Str) => some (((t8.1 == t10.1) && (t8.2 == t10.2)) && (t15 == t17)))))) else none)))))
theorem watchbilllaw08_PartPrints.ok {k : Nat} {a0 : Str} {a1 : List T_api_Part} {r : Bool} (H : watchbilllaw08_PartPrints k a0 a1 = some r) : Vx.Fn Tryd.prog 3 [(S a0), (L 2 e_api_Part a1)] [] (.v (.bool r)) [] := by
  unfold watchbilllaw08_PartPrints at H
  refine Vx.Fn.of_okR Tryd.func3 rfl (Nat.le_of_ble_eq_true rfl) ?_
  refine Ok.seq ?_
  refine Ok.region (σ' := ⟨[(0, (S a0)), (1, (L 2 e_api_Part a1))], []⟩) ?_ ?_
  · refine .cv (VOk.asg (d := (.v (.bool false))) rfl rfl) rfl rfl ?_
    exact .done (.rf rfl rfl)
  refine Ok.seq ?_
  refine Ok.seq ?_
  obtain ⟨t1, h2, H⟩ := bindE H
  refine Ok.region (σ' := ⟨[(0, (S a0)), (1, (L 2 e_api_Part a1)), (10, (.v (.bool (!t1))))], []⟩) ?_ ?_
  · refine .cg (GOk.call rfl rfl cl7 rfl (watchbilllaw08_awake.ok h2) rfl) rfl rfl ?_
    refine .cv (VOk.not (b := t1) rfl rfl) rfl rfl ?_
    exact .done (.rf rfl rfl)
  refine Ok.test (b := (!t1)) rfl (fun hb21 => ?_) (fun hb21 => ?_)
  · replace H := ifT H hb21
    refine Ok.seq ?_
    refine Ok.region (σ' := ⟨[(4, (.v (.bool false)))], []⟩) ?_ ?_
    · refine .cv (VOk.asg (d := (.v (.bool false))) rfl rfl) rfl rfl ?_
      exact .done (.rf rfl rfl)
    refine Ok.ret ?_
    obtain rfl := Option.some.inj H
    exact ⟨.inl rfl, ⟨_, (.cons (.tmp rfl) .nil), rfl⟩, trivial⟩
  · replace H := ifF H hb21
    refine Ok.skip ?_
    refine Ok.seq ?_
    refine Ok.seq ?_
    obtain ⟨t3, h4, H⟩ := bindE H
    refine Ok.region (σ' := ⟨[(0, (S a0)), (1, (L 2 e_api_Part a1)), (18, (.v (.bool ((!t3) || (decide ((a0.length : Int) > 2000))))))], []⟩) ?_ ?_
    · refine .cv (VOk.mv (d := (L 2 e_api_Part a1)) rfl rfl) rfl rfl ?_
      refine .cg (GOk.call rfl rfl cl8 rfl (watchbilllaw08_Few.ok h4) rfl) rfl rfl ?_
      refine .cv (VOk.not (b := t3) rfl rfl) rfl rfl ?_
      refine .cv (VOk.mv (d := (.v (.bool (!t3)))) rfl rfl) rfl rfl ?_
      refine OpsOk.consI rfl rfl rfl (.one rfl) rfl (fun hw5 => (VOk.g (VOk.mv (d := (S a0)) rfl rfl))) ?_
      refine OpsOk.consI rfl rfl rfl (.one rfl) rfl (fun hw5 => (GOk.fr (fr' := [(15, (S a0))]) ⟨DLe.of_eq (cT hw5).symm, trivial⟩ (VOk.g (VOk.lenStr (s := a0) rfl Tryd.underlying9 rfl)))) ?_
      refine OpsOk.consI rfl rfl rfl (.one rfl) rfl (fun hw5 => (GOk.fr (fr' := [(16, (.v (.int .i64 (a0.length : Int))))]) ⟨DLe.of_eq (cT hw5).symm, trivial⟩ (VOk.g (VOk.arith (op := .gtr) (k := .i64) (a := (a0.length : Int)) (b := 2000) rfl rfl rfl rfl)))) ?_
      refine .cv (VOk.to (VOk.pickI (b := (!t3)) (p := true) (q := (decide ((a0.length : Int) > 2000))) rfl rfl (fun hp6 => rfl) (fun hp6 => (cT (f_beq hp6)))) (pickOr (!t3) (decide ((a0.length : Int) > 2000)))) rfl rfl ?_
      exact .done (.rf rfl rfl)
    refine Ok.test (b := ((!t3) || (decide ((a0.length : Int) > 2000)))) rfl (fun hb20 => ?_) (fun hb20 => ?_)
    · replace H := ifT H hb20
      refine Ok.seq ?_
      refine Ok.region (σ' := ⟨[(4, (.v (.bool true)))], []⟩) ?_ ?_
      · refine .cv (VOk.asg (d := (.v (.bool true))) rfl rfl) rfl rfl ?_
        exact .done (.rf rfl rfl)
      refine Ok.ret ?_
      obtain rfl := Option.some.inj H
      exact ⟨.inl rfl, ⟨_, (.cons (.tmp rfl) .nil), rfl⟩, trivial⟩
    · replace H := ifF H hb20
      refine Ok.skip ?_
      refine Ok.seq ?_
      obtain ⟨c7, H⟩ := assertE H
      obtain ⟨t8, h9, H⟩ := bindE H
      refine Ok.region (σ' := ⟨[(0, (S a0)), (1, (L 2 e_api_Part a1)), (5, (S t8.1)), (6, (.v (.int .i64 t8.2)))], []⟩) ?_ ?_
      · refine .cv (VOk.mv (d := (S a0)) rfl rfl) rfl rfl ?_
        refine .cg (GOk.to (d' := (.clist 2 (List.map e_api_Part ([] : List T_api_Part)))) (GOk.litC rfl Tryd.underlying22 sz43 zs43 rfl rfl rfl rfl) rfl) rfl rfl ?_
        refine .cv (VOk.mv (d := (L 2 e_api_Part a1)) rfl rfl) rfl rfl ?_
        refine .cg (GOk.appendC (e := e_api_Part) (xs := ([] : List T_api_Part)) (ys := a1) rfl Tryd.underlying22 elt43 (.same _) rfl c7) rfl rfl ?_
        refine .cg (GOk.call rfl rfl cl9 rfl (part_Print.ok h9) rfl) rfl rfl ?_
        refine .cv (VOk.mv (d := (.tup [(S t8.1), (.v (.int .i64 t8.2))])) rfl rfl) rfl rfl ?_
        refine .cv (VOk.extract (d := (S t8.1)) rfl rfl rfl) rfl rfl ?_
        refine .cv (VOk.extract (d := (.v (.int .i64 t8.2))) rfl rfl rfl) rfl rfl ?_
        refine .cv (VOk.asg (d := (S t8.1)) rfl rfl) rfl rfl ?_
        refine .cv (VOk.asg (d := (.v (.int .i64 t8.2))) rfl rfl) rfl rfl ?_
        exact .done (.rf rfl rfl)
      refine Ok.seq ?_
      obtain ⟨t10, h11, H⟩ := bindE H
      refine Ok.region (σ' := ⟨[(1, (L 2 e_api_Part a1)), (5, (S t8.1)), (6, (.v (.int .i64 t8.2))), (7, (S t10.1)), (8, (.v (.int .i64 t10.2)))], []⟩) ?_ ?_
      · refine .cv (VOk.mv (d := (S a0)) rfl rfl) rfl rfl ?_
        refine .cv (VOk.mv (d := (L 2 e_api_Part a1)) rfl rfl) rfl rfl ?_
        refine .cg (GOk.call rfl rfl cl10 rfl (watchbillref08_Print.ok h11) rfl) rfl rfl ?_
        refine .cv (VOk.mv (d := (.tup [(S t10.1), (.v (.int .i64 t10.2))])) rfl rfl) rfl rfl ?_
        refine .cv (VOk.extract (d := (S t10.1)) rfl rfl rfl) rfl rfl ?_
        refine .cv (VOk.extract (d := (.v (.int .i64 t10.2))) rfl rfl rfl) rfl rfl ?_
        refine .cv (VOk.asg (d := (S t10.1)) rfl rfl) rfl rfl ?_
        refine .cv (VOk.asg (d := (.v (.int .i64 t10.2))) rfl rfl) rfl rfl ?_
        exact .done (.rf rfl rfl)
      refine Ok.seq ?_
      obtain ⟨t15, h16, H⟩ := bindE H
      obtain ⟨t17, h18, H⟩ := bindE H
      refine Ok.region (σ' := ⟨[(4, (.v (.bool (((t8.1 == t10.1) && (t8.2 == t10.2)) && (t15 == t17)))))], []⟩) ?_ ?_
      · refine .cv (VOk.mv (d := (S t8.1)) rfl rfl) rfl rfl ?_
        refine .cv (VOk.mv (d := (S t10.1)) rfl rfl) rfl rfl ?_
        refine .cv (VOk.strOp (op := .eql) (a := t8.1) (b := t10.1) rfl rfl rfl rfl) rfl rfl ?_
        refine .cv (VOk.mv (d := (.v (.bool (t8.1 == t10.1)))) rfl rfl) rfl rfl ?_
        refine OpsOk.consI rfl rfl rfl (.one rfl) rfl (fun hw12 => (VOk.g (VOk.mv (d := (.v (.int .i64 t8.2))) rfl rfl))) ?_
        refine OpsOk.consI rfl rfl rfl (.one rfl) rfl (fun hw12 => (VOk.g (VOk.mv (d := (.v (.int .i64 t10.2))) rfl rfl))) ?_
        refine OpsOk.consI rfl rfl rfl (.one rfl) rfl (fun hw12 => (GOk.fr (fr' := [(37, (.v (.int .i64 t8.2))), (38, (.v (.int .i64 t10.2)))]) ⟨DLe.of_eq (cT hw12).symm, DLe.of_eq (cT hw12).symm, trivial⟩ (VOk.g (VOk.arith (op := .eql) (k := .i64) (a := t8.2) (b := t10.2) rfl rfl rfl rfl)))) ?_
        refine .cv (VOk.to (VOk.pickI (b := (t8.1 == t10.1)) (p := (t8.2 == t10.2)) (q := false) rfl rfl (fun hp13 => (cT (t_beq hp13))) (fun hp13 => rfl)) (pickAnd (t8.1 == t10.1) (t8.2 == t10.2))) rfl rfl ?_
        refine .cv (VOk.mv (d := (.v (.bool ((t8.1 == t10.1) && (t8.2 == t10.2))))) rfl rfl) rfl rfl ?_
        refine OpsOk.consI rfl rfl rfl (.one rfl) rfl (fun hw14 => (VOk.g (VOk.mv (d := (L 2 e_api_Part a1)) rfl rfl))) ?_
        refine OpsOk.consI rfl rfl rfl (.one rfl) rfl (fun hw14 => (GOk.fr (fr' := [(42, (L 2 e_api_Part a1))]) ⟨DLe.of_eq (cT hw14).symm, trivial⟩ (GOk.call rfl rfl cl11 rfl (part_Choose.ok (ifT h16 hw14)) rfl))) ?_
        refine OpsOk.consI rfl rfl rfl (.one rfl) rfl (fun hw14 => (VOk.g (VOk.mv (d := (L 2 e_api_Part a1)) rfl rfl))) ?_
        refine OpsOk.consI rfl rfl rfl (.one rfl) rfl (fun hw14 => (GOk.fr (fr' := [(44, (L 2 e_api_Part a1))]) ⟨DLe.of_eq (cT hw14).symm, trivial⟩ (GOk.call rfl rfl cl12 rfl (watchbillref08_Choose.ok (ifT h18 hw14)) rfl))) ?_
        refine OpsOk.consI rfl rfl rfl (.one rfl) rfl (fun hw14 => (GOk.fr (fr' := [(43, (S t15)), (45, (S t17))]) ⟨DLe.of_eq (cT hw14).symm, DLe.of_eq (cT hw14).symm, trivial⟩ (VOk.g (VOk.strOp (op := .eql) (a := t15) (b := t17) rfl rfl rfl rfl)))) ?_
        refine .cv (VOk.to (VOk.pickI (b := ((t8.1 == t10.1) && (t8.2 == t10.2))) (p := (t15 == t17)) (q := false) rfl rfl (fun hp19 => (cT (t_beq hp19))) (fun hp19 => rfl)) (pickAnd ((t8.1 == t10.1) && (t8.2 == t10.2)) (t15 == t17))) rfl rfl ?_
        refine .cv (VOk.asg (d := (.v (.bool (((t8.1 == t10.1) && (t8.2 == t10.2)) && (t15 == t17))))) rfl rfl) rfl rfl ?_
        exact .done (.rf rfl rfl)
      refine Ok.ret ?_
      obtain rfl := Option.some.inj H
      exact ⟨.inl rfl, ⟨_, (.cons (.tmp rfl) .nil), rfl⟩, trivial⟩

/-! watchbill/watchbillref08.delimiter: function 49 -/
def watchbillref08_delimiter (a0 : Str) (a1 : Str) (a2 : Int) : Option Bool := (if ([45, 45] : Str).length + a1.length ≤ 9223372036854775807 then ((watchbillref03_Begins a0 a2 (([45, 45] : Str) ++ a1)).bind fun (t2 : Bool) => (((if ((t2 == true) && ((a2 == 0) == false)) = true then watchbillref03_Begins a0 (IntKind.i64.wrap (a2 - 2)) ([13, 10] : Str) else some default)).bind fun (t6 : Bool) => some (t2 && ((a2 == 0) || t6)))) else none)
theorem watchbillref08_delimiter.ok {a0 : Str} {a1 : Str} {a2 : Int} {r : Bool} (H : watchbillref08_delimiter a0 a1 a2 = some r) : Vx.Fn Tryd.prog 49 [(S a0), (S a1), (.v (.int .i64 a2))] [] (.v (.bool r)) [] := by
  unfold watchbillref08_delimiter at H
  refine Vx.Fn.of_okR Tryd.func49 rfl (Nat.le_of_ble_eq_true rfl) ?_
  refine Ok.seq ?_
  refine Ok.region (σ' := ⟨[(0, (S a0)), (1, (S a1)), (2, (.v (.int .i64 a2)))], []⟩) ?_ ?_
  · refine .cv (VOk.asg (d := (.v (.bool false))) rfl rfl) rfl rfl ?_
    exact .done (.rf rfl rfl)
  refine Ok.seq ?_
  obtain ⟨c1, H⟩ := assertE H
  obtain ⟨t2, h3, H⟩ := bindE H
  obtain ⟨t6, h7, H⟩ := bindE H
  refine Ok.region (σ' := ⟨[(6, (.v (.bool (t2 && ((a2 == 0) || t6)))))], []⟩) ?_ ?_
  · refine .cv (VOk.mv (d := (S a0)) rfl rfl) rfl rfl ?_
    refine .cv (VOk.mv (d := (.v (.int .i64 a2))) rfl rfl) rfl rfl ?_
    refine .cv (VOk.mv (d := (S a1)) rfl rfl) rfl rfl ?_
    refine .cv (VOk.cat (a := ([45, 45] : Str)) (b := a1) rfl rfl rfl c1) rfl rfl ?_
    refine .cg (GOk.call rfl rfl cl32 rfl (watchbillref03_Begins.ok h3) rfl) rfl rfl ?_
    refine .cv (VOk.mv (d := (.v (.bool t2))) rfl rfl) rfl rfl ?_
    refine OpsOk.consI rfl rfl rfl (.one rfl) rfl (fun hw4 => (VOk.g (VOk.mv (d := (.v (.int .i64 a2))) rfl rfl))) ?_
    refine OpsOk.consI rfl rfl rfl (.one rfl) rfl (fun hw4 => (GOk.fr (fr' := [(13, (.v (.int .i64 a2)))]) ⟨DLe.of_eq (cT hw4).symm, trivial⟩ (VOk.g (VOk.arith (op := .eql) (k := .i64) (a := a2) (b := 0) rfl rfl rfl rfl)))) ?_
    refine OpsOk.consI rfl rfl rfl (.one rfl) rfl (fun hw4 => (GOk.fr (fr' := [(14, (.v (.bool (a2 == 0))))]) ⟨DLe.of_eq (cT hw4).symm, trivial⟩ (VOk.g (VOk.mv (d := (.v (.bool (a2 == 0)))) rfl rfl)))) ?_
    refine OpsOk.consI rfl rfl rfl (.two rfl) rfl (fun hw5 => (VOk.g (VOk.mv (d := (S a0)) rfl rfl))) ?_
    refine OpsOk.consI rfl rfl rfl (.two rfl) rfl (fun hw5 => (VOk.g (VOk.mv (d := (.v (.int .i64 a2))) rfl rfl))) ?_
    refine OpsOk.consI rfl rfl rfl (.two rfl) rfl (fun hw5 => (GOk.fr (fr' := [(17, (.v (.int .i64 a2)))]) ⟨DLe.of_eq (cT hw5).symm, trivial⟩ (VOk.g (VOk.arith (op := .sub) (k := .i64) (a := a2) (b := 2) rfl rfl rfl rfl)))) ?_
    refine OpsOk.consI rfl rfl rfl (.two rfl) rfl (fun hw5 => (GOk.fr (fr' := [(16, (S a0)), (18, (.v (.int .i64 (IntKind.i64.wrap (a2 - 2)))))]) ⟨DLe.of_eq (cT hw5).symm, DLe.of_eq (cT hw5).symm, trivial⟩ (GOk.call rfl rfl cl32 rfl (watchbillref03_Begins.ok (ifT h7 hw5)) rfl))) ?_
    refine OpsOk.consI rfl rfl rfl (.one rfl) rfl (fun hw4 => (VOk.g (VOk.to (VOk.pickI (b := (a2 == 0)) (p := true) (q := t6) rfl (cT hw4) (fun hp8 => rfl) (fun hp8 => (cT (and_i hw4 (f_beq hp8))))) (pickOr (a2 == 0) t6)))) ?_
    refine .cv (VOk.to (VOk.pickI (b := t2) (p := ((a2 == 0) || t6)) (q := false) rfl rfl (fun hp9 => (cT (t_beq hp9))) (fun hp9 => rfl)) (pickAnd t2 ((a2 == 0) || t6))) rfl rfl ?_
    refine .cv (VOk.asg (d := (.v (.bool (t2 && ((a2 == 0) || t6))))) rfl rfl) rfl rfl ?_
    exact .done (.rf rfl rfl)
  refine Ok.ret ?_
  obtain rfl := Option.some.inj H
  exact ⟨.inl rfl, ⟨_, (.cons (.tmp rfl) .nil), rfl⟩, trivial⟩

/-! watchbill/watchbillref08.next: function 31 -/
def watchbillref08_next.l0 (k : Nat) (a0 : Str) (a1 : Str) : Nat → Int → Option Int
  | 0, _ => none
  | m3 + 1, x2_1 => (if (decide (x2_1 < (a0.length : Int))) = true then ((watchbillref08_delimiter a0 a1 x2_1).bind fun (t4 : Bool) => (if t4 = true then some x2_1 else watchbillref08_next.l0 k a0 a1 m3 (IntKind.i64.wrap (x2_1 + 1)))) else some (-1))
def watchbillref08_next (k : Nat) (a0 : Str) (a1 : Str) (a2 : Int) : Option Int := watchbillref08_next.l0 k a0 a1 k a2
theorem watchbillref08_next.ok {k : Nat} {a0 : Str} {a1 : Str} {a2 : Int} {r : Int} (H : watchbillref08_next k a0 a1 a2 = some r) : Vx.Fn Tryd.prog 31 [(S a0), (S a1), (.v (.int .i64 a2))] [] (.v (.int .i64 r)) [] := by
  unfold watchbillref08_next at H
  refine Vx.Fn.of_okR Tryd.func31 rfl (Nat.le_of_ble_eq_true rfl) ?_
  refine Ok.seq ?_
  refine Ok.region (σ' := ⟨[(0, (S a0)), (1, (S a1)), (2, (.v (.int .i64 a2)))], []⟩) ?_ ?_
  · refine .cv (VOk.asg (d := (.v (.int .i64 0))) rfl rfl) rfl rfl ?_
    exact .done (.rf rfl rfl)
  refine Ok.seq ?_
  refine Ok.block ?_
  refine Ok.le (σ' := ⟨[(0, (S a0)), (1, (S a1)), (2, (.v (.int .i64 a2)))], []⟩) (.rf rfl rfl) ?_
  refine Ok.loop (fun m3 σ => ∃ (x2_1 : Int), σ = ⟨[(0, (S a0)), (1, (S a1)), (2, (.v (.int .i64 x2_1)))], []⟩ ∧ watchbillref08_next.l0 k a0 a1 m3 x2_1 = some r) k ⟨a2, rfl, H⟩ ?_
  rintro m3 σ ⟨x2_1, rfl, H⟩
  cases m3 with
  | zero => exact absurd H (by simp [watchbillref08_next.l0])
  | succ m3 =>
    unfold watchbillref08_next.l0 at H
    refine Ok.seq ?_
    refine Ok.seq ?_
    refine Ok.region (σ' := ⟨[(0, (S a0)), (1, (S a1)), (2, (.v (.int .i64 x2_1))), (10, (.v (.bool (decide (x2_1 < (a0.length : Int))))))], []⟩) ?_ ?_
    · refine .cv (VOk.mv (d := (.v (.int .i64 x2_1))) rfl rfl) rfl rfl ?_
      refine .cv (VOk.mv (d := (S a0)) rfl rfl) rfl rfl ?_
      refine .cv (VOk.lenStr (s := a0) rfl Tryd.underlying9 rfl) rfl rfl ?_
      refine .cv (VOk.arith (op := .lss) (k := .i64) (a := x2_1) (b := (a0.length : Int)) rfl rfl rfl rfl) rfl rfl ?_
      exact .done (.rf rfl rfl)
    refine Ok.test (b := (decide (x2_1 < (a0.length : Int)))) rfl (fun hb7 => ?_) (fun hb7 => ?_)
    · replace H := ifT H hb7
      refine Ok.skip ?_
      refine Ok.block ?_
      refine Ok.seq ?_
      refine Ok.seq ?_
      obtain ⟨t4, h5, H⟩ := bindE H
      refine Ok.region (σ' := ⟨[(0, (S a0)), (1, (S a1)), (2, (.v (.int .i64 x2_1))), (14, (.v (.bool t4)))], []⟩) ?_ ?_
      · refine .cv (VOk.mv (d := (S a0)) rfl rfl) rfl rfl ?_
        refine .cv (VOk.mv (d := (S a1)) rfl rfl) rfl rfl ?_
        refine .cv (VOk.mv (d := (.v (.int .i64 x2_1))) rfl rfl) rfl rfl ?_
        refine .cg (GOk.call rfl rfl cl49 rfl (watchbillref08_delimiter.ok h5) rfl) rfl rfl ?_
        exact .done (.rf rfl rfl)
      refine Ok.test (b := t4) rfl (fun hb6 => ?_) (fun hb6 => ?_)
      · replace H := ifT H hb6
        refine Ok.seq ?_
        refine Ok.region (σ' := ⟨[(6, (.v (.int .i64 x2_1)))], []⟩) ?_ ?_
        · refine .cv (VOk.mv (d := (.v (.int .i64 x2_1))) rfl rfl) rfl rfl ?_
          refine .cv (VOk.asg (d := (.v (.int .i64 x2_1))) rfl rfl) rfl rfl ?_
          exact .done (.rf rfl rfl)
        refine Ok.ret ?_
        obtain rfl := Option.some.inj H
        exact ⟨.inl rfl, ⟨_, (.cons (.tmp rfl) .nil), rfl⟩, trivial⟩
      · replace H := ifF H hb6
        refine Ok.skip ?_
        refine Ok.region (σ' := ⟨[(0, (S a0)), (1, (S a1)), (2, (.v (.int .i64 (IntKind.i64.wrap (x2_1 + 1)))))], []⟩) ?_ ?_
        · refine .cv (VOk.mv (d := (.v (.int .i64 x2_1))) rfl rfl) rfl rfl ?_
          refine .cv (VOk.arith (op := .add) (k := .i64) (a := x2_1) (b := 1) rfl rfl rfl rfl) rfl rfl ?_
          refine .cv (VOk.asg (d := (.v (.int .i64 (IntKind.i64.wrap (x2_1 + 1))))) rfl rfl) rfl rfl ?_
          exact .done (.rf rfl rfl)
        exact ⟨m3, Nat.lt_succ_self m3, (IntKind.i64.wrap (x2_1 + 1)), rfl, H⟩
    · replace H := ifF H hb7
      refine Ok.exit ?_
      refine Ok.seq ?_
      refine Ok.region (σ' := ⟨[(6, (.v (.int .i64 (-1))))], []⟩) ?_ ?_
      · refine .cv (VOk.asg (d := (.v (.int .i64 (-1)))) rfl rfl) rfl rfl ?_
        exact .done (.rf rfl rfl)
      refine Ok.ret ?_
      obtain rfl := Option.some.inj H
      exact ⟨.inl rfl, ⟨_, (.cons (.tmp rfl) .nil), rfl⟩, trivial⟩

/-! watchbill/watchbillref07.ends: function 50 -/
def watchbillref07_ends.l0 (k : Nat) (a0 : Str) : Nat → Int → Option Int
  | 0, _ => none
  | m3 + 1, x5_1 => (if (decide ((IntKind.i64.wrap (x5_1 + 1)) < (a0.length : Int))) = true then (if (0 : Int) ≤ x5_1 ∧ x5_1 < (a0.length : Int) then (if ((((bt a0 x5_1) == 13) == true) = true → (0 : Int) ≤ (IntKind.i64.wrap (x5_1 + 1)) ∧ (IntKind.i64.wrap (x5_1 + 1)) < (a0.length : Int)) then (if (((bt a0 x5_1) == 13) && ((bt a0 (IntKind.i64.wrap (x5_1 + 1))) == 10)) = true then some x5_1 else watchbillref07_ends.l0 k a0 m3 (IntKind.i64.wrap (x5_1 + 1))) else none) else none) else some (-1))
def watchbillref07_ends (k : Nat) (a0 : Str) (a1 : Int) : Option Int := watchbillref07_ends.l0 k a0 k a1
theorem watchbillref07_ends.ok {k : Nat} {a0 : Str} {a1 : Int} {r : Int} (H : watchbillref07_ends k a0 a1 = some r) : Vx.Fn Tryd.prog 50 [(S a0), (.v (.int .i64 a1))] [] (.v (.int .i64 r)) [] := by
  unfold watchbillref07_ends at H
  refine Vx.Fn.of_okR Tryd.func50 rfl (Nat.le_of_ble_eq_true rfl) ?_
  refine Ok.seq ?_
  refine Ok.region (σ' := ⟨[(0, (S a0)), (1, (.v (.int .i64 a1)))], []⟩) ?_ ?_
  · refine .cv (VOk.asg (d := (.v (.int .i64 0))) rfl rfl) rfl rfl ?_
    exact .done (.rf rfl rfl)
  refine Ok.seq ?_
  refine Ok.seq ?_
  refine Ok.region (σ' := ⟨[(0, (S a0)), (5, (.v (.int .i64 a1)))], []⟩) ?_ ?_
  · refine .cv (VOk.mv (d := (.v (.int .i64 a1))) rfl rfl) rfl rfl ?_
    refine .cv (VOk.asg (d := (.v (.int .i64 a1))) rfl rfl) rfl rfl ?_
    exact .done (.rf rfl rfl)
  refine Ok.block ?_
  refine Ok.le (σ' := ⟨[(0, (S a0)), (5, (.v (.int .i64 a1)))], []⟩) (.rf rfl rfl) ?_
  refine Ok.loop (fun m3 σ => ∃ (x5_1 : Int), σ = ⟨[(0, (S a0)), (5, (.v (.int .i64 x5_1)))], []⟩ ∧ watchbillref07_ends.l0 k a0 m3 x5_1 = some r) k ⟨a1, rfl, H⟩ ?_
  rintro m3 σ ⟨x5_1, rfl, H⟩
  cases m3 with
  | zero => exact absurd H (by simp [watchbillref07_ends.l0])
  | succ m3 =>
    unfold watchbillref07_ends.l0 at H
    refine Ok.seq ?_
    refine Ok.seq ?_
    refine Ok.region (σ' := ⟨[(0, (S a0)), (5, (.v (.int .i64 x5_1))), (11, (.v (.bool (decide ((IntKind.i64.wrap (x5_1 + 1)) < (a0.length : Int))))))], []⟩) ?_ ?_
    · refine .cv (VOk.mv (d := (.v (.int .i64 x5_1))) rfl rfl) rfl rfl ?_
      refine .cv (VOk.arith (op := .add) (k := .i64) (a := x5_1) (b := 1) rfl rfl rfl rfl) rfl rfl ?_
      refine .cv (VOk.mv (d := (S a0)) rfl rfl) rfl rfl ?_
      refine .cv (VOk.lenStr (s := a0) rfl Tryd.underlying9 rfl) rfl rfl ?_
      refine .cv (VOk.arith (op := .lss) (k := .i64) (a := (IntKind.i64.wrap (x5_1 + 1))) (b := (a0.length : Int)) rfl rfl rfl rfl) rfl rfl ?_
      exact .done (.rf rfl rfl)
    refine Ok.test (b := (decide ((IntKind.i64.wrap (x5_1 + 1)) < (a0.length : Int)))) rfl (fun hb9 => ?_) (fun hb9 => ?_)
    · replace H := ifT H hb9
      refine Ok.skip ?_
      refine Ok.seq ?_
      refine Ok.block ?_
      refine Ok.seq ?_
      obtain ⟨c4, H⟩ := assertE H
      obtain ⟨c6, H⟩ := assertE H
      refine Ok.region (σ' := ⟨[(0, (S a0)), (5, (.v (.int .i64 x5_1))), (24, (.v (.bool (((bt a0 x5_1) == 13) && ((bt a0 (IntKind.i64.wrap (x5_1 + 1))) == 10)))))], []⟩) ?_ ?_
      · refine .cv (VOk.mv (d := (S a0)) rfl rfl) rfl rfl ?_
        refine .cv (VOk.mv (d := (.v (.int .i64 x5_1))) rfl rfl) rfl rfl ?_
        refine .cv (VOk.indexStr (s := a0) (i := x5_1) rfl Tryd.underlying9 rfl rfl c4) rfl rfl ?_
        refine .cv (VOk.arith (op := .eql) (k := .u8) (a := (bt a0 x5_1)) (b := 13) rfl rfl rfl rfl) rfl rfl ?_
        refine .cv (VOk.mv (d := (.v (.bool ((bt a0 x5_1) == 13)))) rfl rfl) rfl rfl ?_
        refine OpsOk.consI rfl rfl rfl (.one rfl) rfl (fun hw5 => (VOk.g (VOk.mv (d := (S a0)) rfl rfl))) ?_
        refine OpsOk.consI rfl rfl rfl (.one rfl) rfl (fun hw5 => (VOk.g (VOk.mv (d := (.v (.int .i64 x5_1))) rfl rfl))) ?_
        refine OpsOk.consI rfl rfl rfl (.one rfl) rfl (fun hw5 => (GOk.fr (fr' := [(20, (.v (.int .i64 x5_1)))]) ⟨DLe.of_eq (cT hw5).symm, trivial⟩ (VOk.g (VOk.arith (op := .add) (k := .i64) (a := x5_1) (b := 1) rfl rfl rfl rfl)))) ?_
        refine OpsOk.consI rfl rfl rfl (.one rfl) rfl (fun hw5 => (GOk.fr (fr' := [(19, (S a0)), (21, (.v (.int .i64 (IntKind.i64.wrap (x5_1 + 1)))))]) ⟨DLe.of_eq (cT hw5).symm, DLe.of_eq (cT hw5).symm, trivial⟩ (VOk.g (VOk.indexStr (s := a0) (i := (IntKind.i64.wrap (x5_1 + 1))) rfl Tryd.underlying9 rfl rfl (c6 hw5))))) ?_
        refine OpsOk.consI rfl rfl rfl (.one rfl) rfl (fun hw5 => (GOk.fr (fr' := [(22, (.v (.int .u8 (bt a0 (IntKind.i64.wrap (x5_1 + 1))))))]) ⟨DLe.of_eq (cT hw5).symm, trivial⟩ (VOk.g (VOk.arith (op := .eql) (k := .u8) (a := (bt a0 (IntKind.i64.wrap (x5_1 + 1)))) (b := 10) rfl rfl rfl rfl)))) ?_
        refine .cv (VOk.to (VOk.pickI (b := ((bt a0 x5_1) == 13)) (p := ((bt a0 (IntKind.i64.wrap (x5_1 + 1))) == 10)) (q := false) rfl rfl (fun hp7 => (cT (t_beq hp7))) (fun hp7 => rfl)) (pickAnd ((bt a0 x5_1) == 13) ((bt a0 (IntKind.i64.wrap (x5_1 + 1))) == 10))) rfl rfl ?_
        exact .done (.rf rfl rfl)
      refine Ok.test (b := (((bt a0 x5_1) == 13) && ((bt a0 (IntKind.i64.wrap (x5_1 + 1))) == 10))) rfl (fun hb8 => ?_) (fun hb8 => ?_)
      · replace H := ifT H hb8
        refine Ok.seq ?_
        refine Ok.region (σ' := ⟨[(4, (.v (.int .i64 x5_1)))], []⟩) ?_ ?_
        · refine .cv (VOk.mv (d := (.v (.int .i64 x5_1))) rfl rfl) rfl rfl ?_
          refine .cv (VOk.asg (d := (.v (.int .i64 x5_1))) rfl rfl) rfl rfl ?_
          exact .done (.rf rfl rfl)
        refine Ok.ret ?_
        obtain rfl := Option.some.inj H
        exact ⟨.inl rfl, ⟨_, (.cons (.tmp rfl) .nil), rfl⟩, trivial⟩
      · replace H := ifF H hb8
        refine Ok.skip ?_
        refine Ok.region (σ' := ⟨[(0, (S a0)), (5, (.v (.int .i64 (IntKind.i64.wrap (x5_1 + 1)))))], []⟩) ?_ ?_
        · refine .cv (VOk.mv (d := (.v (.int .i64 x5_1))) rfl rfl) rfl rfl ?_
          refine .cv (VOk.arith (op := .add) (k := .i64) (a := x5_1) (b := 1) rfl rfl rfl rfl) rfl rfl ?_
          refine .cv (VOk.asg (d := (.v (.int .i64 (IntKind.i64.wrap (x5_1 + 1))))) rfl rfl) rfl rfl ?_
          exact .done (.rf rfl rfl)
        exact ⟨m3, Nat.lt_succ_self m3, (IntKind.i64.wrap (x5_1 + 1)), rfl, H⟩
    · replace H := ifF H hb9
      refine Ok.exit ?_
      refine Ok.seq ?_
      refine Ok.region (σ' := ⟨[(4, (.v (.int .i64 (-1))))], []⟩) ?_ ?_
      · refine .cv (VOk.asg (d := (.v (.int .i64 (-1)))) rfl rfl) rfl rfl ?_
        exact .done (.rf rfl rfl)
      refine Ok.ret ?_
      obtain rfl := Option.some.inj H
      exact ⟨.inl rfl, ⟨_, (.cons (.tmp rfl) .nil), rfl⟩, trivial⟩

/-! watchbill/watchbillref07.blank: function 51 -/
def watchbillref07_blank (a0 : Int) : Option Bool := some ((a0 == 32) || (a0 == 9))
theorem watchbillref07_blank.ok {a0 : Int} {r : Bool} (H : watchbillref07_blank a0 = some r) : Vx.Fn Tryd.prog 51 [(.v (.int .u8 a0))] [] (.v (.bool r)) [] := by
  unfold watchbillref07_blank at H
  refine Vx.Fn.of_okR Tryd.func51 rfl (Nat.le_of_ble_eq_true rfl) ?_
  refine Ok.seq ?_
  refine Ok.region (σ' := ⟨[(0, (.v (.int .u8 a0)))], []⟩) ?_ ?_
  · refine .cv (VOk.asg (d := (.v (.bool false))) rfl rfl) rfl rfl ?_
    exact .done (.rf rfl rfl)
  refine Ok.seq ?_
  refine Ok.region (σ' := ⟨[(2, (.v (.bool ((a0 == 32) || (a0 == 9)))))], []⟩) ?_ ?_
  · refine .cv (VOk.mv (d := (.v (.int .u8 a0))) rfl rfl) rfl rfl ?_
    refine .cv (VOk.arith (op := .eql) (k := .u8) (a := a0) (b := 32) rfl rfl rfl rfl) rfl rfl ?_
    refine .cv (VOk.mv (d := (.v (.bool (a0 == 32)))) rfl rfl) rfl rfl ?_
    refine OpsOk.consI rfl rfl rfl (.one rfl) rfl (fun hw1 => (VOk.g (VOk.mv (d := (.v (.int .u8 a0))) rfl rfl))) ?_
    refine OpsOk.consI rfl rfl rfl (.one rfl) rfl (fun hw1 => (GOk.fr (fr' := [(6, (.v (.int .u8 a0)))]) ⟨DLe.of_eq (cT hw1).symm, trivial⟩ (VOk.g (VOk.arith (op := .eql) (k := .u8) (a := a0) (b := 9) rfl rfl rfl rfl)))) ?_
    refine .cv (VOk.to (VOk.pickI (b := (a0 == 32)) (p := true) (q := (a0 == 9)) rfl rfl (fun hp2 => rfl) (fun hp2 => (cT (f_beq hp2)))) (pickOr (a0 == 32) (a0 == 9))) rfl rfl ?_
    refine .cv (VOk.asg (d := (.v (.bool ((a0 == 32) || (a0 == 9))))) rfl rfl) rfl rfl ?_
    exact .done (.rf rfl rfl)
  refine Ok.ret ?_
  obtain rfl := Option.some.inj H
  exact ⟨.inl rfl, ⟨_, (.cons (.tmp rfl) .nil), rfl⟩, trivial⟩

/-! watchbill/watchbillref07.Plain: function 52 -/
def watchbillref07_Plain.l0 (k : Nat) (a0 : Str) : Nat → Int → Option Bool
  | 0, _ => none
  | m3 + 1, x3_1 => (if (decide (x3_1 < (a0.length : Int))) = true then (if (0 : Int) ≤ x3_1 ∧ x3_1 < (a0.length : Int) then (if ((((bt a0 x3_1) != 9) == true) = true → (0 : Int) ≤ x3_1 ∧ x3_1 < (a0.length : Int)) then (if (((((bt a0 x3_1) != 9) == true) && ((decide ((bt a0 x3_1) < 32)) == false)) = true → (0 : Int) ≤ x3_1 ∧ x3_1 < (a0.length : Int)) then (if (((bt a0 x3_1) != 9) && ((decide ((bt a0 x3_1) < 32)) || (decide ((bt a0 x3_1) > 126)))) = true then some false else watchbillref07_Plain.l0 k a0 m3 (IntKind.i64.wrap (x3_1 + 1))) else none) else none) else none) else some true)
def watchbillref07_Plain (k : Nat) (a0 : Str) : Option Bool := watchbillref07_Plain.l0 k a0 k 0
theorem watchbillref07_Plain.ok {k : Nat} {a0 : Str} {r : Bool} (H : watchbillref07_Plain k a0 = some r) : Vx.Fn Tryd.prog 52 [(S a0)] [] (.v (.bool r)) [] := by
  unfold watchbillref07_Plain at H
  refine Vx.Fn.of_okR Tryd.func52 rfl (Nat.le_of_ble_eq_true rfl) ?_
  refine Ok.seq ?_
  refine Ok.region (σ' := ⟨[(0, (S a0))], []⟩) ?_ ?_
  · refine .cv (VOk.asg (d := (.v (.bool false))) rfl rfl) rfl rfl ?_
    exact .done (.rf rfl rfl)
  refine Ok.seq ?_
  refine Ok.seq ?_
  refine Ok.region (σ' := ⟨[(0, (S a0)), (3, (.v (.int .i64 0)))], []⟩) ?_ ?_
  · refine .cv (VOk.asg (d := (.v (.int .i64 0))) rfl rfl) rfl rfl ?_
    exact .done (.rf rfl rfl)
  refine Ok.block ?_
  refine Ok.le (σ' := ⟨[(0, (S a0)), (3, (.v (.int .i64 0)))], []⟩) (.rf rfl rfl) ?_
  refine Ok.loop (fun m3 σ => ∃ (x3_1 : Int), σ = ⟨[(0, (S a0)), (3, (.v (.int .i64 x3_1)))], []⟩ ∧ watchbillref07_Plain.l0 k a0 m3 x3_1 = some r) k ⟨0, rfl, H⟩ ?_
  rintro m3 σ ⟨x3_1, rfl, H⟩
  cases m3 with
  | zero => exact absurd H (by simp [watchbillref07_Plain.l0])
  | succ m3 =>
    unfold watchbillref07_Plain.l0 at H
    refine Ok.seq ?_
    refine Ok.seq ?_
    refine Ok.region (σ' := ⟨[(0, (S a0)), (3, (.v (.int .i64 x3_1))), (7, (.v (.bool (decide (x3_1 < (a0.length : Int))))))], []⟩) ?_ ?_
    · refine .cv (VOk.mv (d := (.v (.int .i64 x3_1))) rfl rfl) rfl rfl ?_
      refine .cv (VOk.mv (d := (S a0)) rfl rfl) rfl rfl ?_
      refine .cv (VOk.lenStr (s := a0) rfl Tryd.underlying9 rfl) rfl rfl ?_
      refine .cv (VOk.arith (op := .lss) (k := .i64) (a := x3_1) (b := (a0.length : Int)) rfl rfl rfl rfl) rfl rfl ?_
      exact .done (.rf rfl rfl)
    refine Ok.test (b := (decide (x3_1 < (a0.length : Int)))) rfl (fun hb12 => ?_) (fun hb12 => ?_)
    · replace H := ifT H hb12
      refine Ok.skip ?_
      refine Ok.seq ?_
      refine Ok.block ?_
      refine Ok.seq ?_
      obtain ⟨c4, H⟩ := assertE H
      obtain ⟨c6, H⟩ := assertE H
      obtain ⟨c8, H⟩ := assertE H
      refine Ok.region (σ' := ⟨[(0, (S a0)), (3, (.v (.int .i64 x3_1))), (25, (.v (.bool (((bt a0 x3_1) != 9) && ((decide ((bt a0 x3_1) < 32)) || (decide ((bt a0 x3_1) > 126)))))))], []⟩) ?_ ?_
      · refine .cv (VOk.mv (d := (S a0)) rfl rfl) rfl rfl ?_
        refine .cv (VOk.mv (d := (.v (.int .i64 x3_1))) rfl rfl) rfl rfl ?_
        refine .cv (VOk.indexStr (s := a0) (i := x3_1) rfl Tryd.underlying9 rfl rfl c4) rfl rfl ?_
        refine .cv (VOk.arith (op := .neq) (k := .u8) (a := (bt a0 x3_1)) (b := 9) rfl rfl rfl rfl) rfl rfl ?_
        refine .cv (VOk.mv (d := (.v (.bool ((bt a0 x3_1) != 9)))) rfl rfl) rfl rfl ?_
        refine OpsOk.consI rfl rfl rfl (.one rfl) rfl (fun hw5 => (VOk.g (VOk.mv (d := (S a0)) rfl rfl))) ?_
        refine OpsOk.consI rfl rfl rfl (.one rfl) rfl (fun hw5 => (VOk.g (VOk.mv (d := (.v (.int .i64 x3_1))) rfl rfl))) ?_
        refine OpsOk.consI rfl rfl rfl (.one rfl) rfl (fun hw5 => (GOk.fr (fr' := [(15, (S a0)), (16, (.v (.int .i64 x3_1)))]) ⟨DLe.of_eq (cT hw5).symm, DLe.of_eq (cT hw5).symm, trivial⟩ (VOk.g (VOk.indexStr (s := a0) (i := x3_1) rfl Tryd.underlying9 rfl rfl (c6 hw5))))) ?_
        refine OpsOk.consI rfl rfl rfl (.one rfl) rfl (fun hw5 => (GOk.fr (fr' := [(17, (.v (.int .u8 (bt a0 x3_1))))]) ⟨DLe.of_eq (cT hw5).symm, trivial⟩ (VOk.g (VOk.arith (op := .lss) (k := .u8) (a := (bt a0 x3_1)) (b := 32) rfl rfl rfl rfl)))) ?_
        refine OpsOk.consI rfl rfl rfl (.one rfl) rfl (fun hw5 => (GOk.fr (fr' := [(18, (.v (.bool (decide ((bt a0 x3_1) < 32)))))]) ⟨DLe.of_eq (cT hw5).symm, trivial⟩ (VOk.g (VOk.mv (d := (.v (.bool (decide ((bt a0 x3_1) < 32))))) rfl rfl)))) ?_
        refine OpsOk.consI rfl rfl rfl (.two rfl) rfl (fun hw7 => (VOk.g (VOk.mv (d := (S a0)) rfl rfl))) ?_
        refine OpsOk.consI rfl rfl rfl (.two rfl) rfl (fun hw7 => (VOk.g (VOk.mv (d := (.v (.int .i64 x3_1))) rfl rfl))) ?_
        refine OpsOk.consI rfl rfl rfl (.two rfl) rfl (fun hw7 => (GOk.fr (fr' := [(20, (S a0)), (21, (.v (.int .i64 x3_1)))]) ⟨DLe.of_eq (cT hw7).symm, DLe.of_eq (cT hw7).symm, trivial⟩ (VOk.g (VOk.indexStr (s := a0) (i := x3_1) rfl Tryd.underlying9 rfl rfl (c8 hw7))))) ?_
        refine OpsOk.consI rfl rfl rfl (.two rfl) rfl (fun hw7 => (GOk.fr (fr' := [(22, (.v (.int .u8 (bt a0 x3_1))))]) ⟨DLe.of_eq (cT hw7).symm, trivial⟩ (VOk.g (VOk.arith (op := .gtr) (k := .u8) (a := (bt a0 x3_1)) (b := 126) rfl rfl rfl rfl)))) ?_
        refine OpsOk.consI rfl rfl rfl (.one rfl) rfl (fun hw5 => (VOk.g (VOk.to (VOk.pickI (b := (decide ((bt a0 x3_1) < 32))) (p := true) (q := (decide ((bt a0 x3_1) > 126))) rfl (cT hw5) (fun hp9 => rfl) (fun hp9 => (cT (and_i hw5 (f_beq hp9))))) (pickOr (decide ((bt a0 x3_1) < 32)) (decide ((bt a0 x3_1) > 126)))))) ?_
        refine .cv (VOk.to (VOk.pickI (b := ((bt a0 x3_1) != 9)) (p := ((decide ((bt a0 x3_1) < 32)) || (decide ((bt a0 x3_1) > 126)))) (q := false) rfl rfl (fun hp10 => (cT (t_beq hp10))) (fun hp10 => rfl)) (pickAnd ((bt a0 x3_1) != 9) ((decide ((bt a0 x3_1) < 32)) || (decide ((bt a0 x3_1) > 126))))) rfl rfl ?_
        exact .done (.rf rfl rfl)
      refine Ok.test (b := (((bt a0 x3_1) != 9) && ((decide ((bt a0 x3_1) < 32)) || (decide ((bt a0 x3_1) > 126))))) rfl (fun hb11 => ?_) (fun hb11 => ?_)
      · replace H := ifT H hb11
        refine Ok.seq ?_
        refine Ok.region (σ' := ⟨[(2, (.v (.bool false)))], []⟩) ?_ ?_
        · refine .cv (VOk.asg (d := (.v (.bool false))) rfl rfl) rfl rfl ?_
          exact .done (.rf rfl rfl)
        refine Ok.ret ?_
        obtain rfl := Option.some.inj H
        exact ⟨.inl rfl, ⟨_, (.cons (.tmp rfl) .nil), rfl⟩, trivial⟩
      · replace H := ifF H hb11
        refine Ok.skip ?_
        refine Ok.region (σ' := ⟨[(0, (S a0)), (3, (.v (.int .i64 (IntKind.i64.wrap (x3_1 + 1)))))], []⟩) ?_ ?_
        · refine .cv (VOk.mv (d := (.v (.int .i64 x3_1))) rfl rfl) rfl rfl ?_
          refine .cv (VOk.arith (op := .add) (k := .i64) (a := x3_1) (b := 1) rfl rfl rfl rfl) rfl rfl ?_
          refine .cv (VOk.asg (d := (.v (.int .i64 (IntKind.i64.wrap (x3_1 + 1))))) rfl rfl) rfl rfl ?_
          exact .done (.rf rfl rfl)
        exact ⟨m3, Nat.lt_succ_self m3, (IntKind.i64.wrap (x3_1 + 1)), rfl, H⟩
    · replace H := ifF H hb12
      refine Ok.exit ?_
      refine Ok.seq ?_
      refine Ok.region (σ' := ⟨[(2, (.v (.bool true)))], []⟩) ?_ ?_
      · refine .cv (VOk.asg (d := (.v (.bool true))) rfl rfl) rfl rfl ?_
        exact .done (.rf rfl rfl)
      refine Ok.ret ?_
      obtain rfl := Option.some.inj H
      exact ⟨.inl rfl, ⟨_, (.cons (.tmp rfl) .nil), rfl⟩, trivial⟩

/-! watchbill/watchbillref07.trim: function 53 -/
def watchbillref07_trim.l1 (k : Nat) : Nat → Str → Option Str
  | 0, _ => none
  | m12 + 1, x0_10 => (if (((decide ((x0_10.length : Int) > 0)) == true) = true → (0 : Int) ≤ (IntKind.i64.wrap ((x0_10.length : Int) - 1)) ∧ (IntKind.i64.wrap ((x0_10.length : Int) - 1)) < (x0_10.length : Int)) then (((if ((decide ((x0_10.length : Int) > 0)) == true) = true then watchbillref07_blank (bt x0_10 (IntKind.i64.wrap ((x0_10.length : Int) - 1))) else some default)).bind fun (t15 : Bool) => (if ((decide ((x0_10.length : Int) > 0)) && t15) = true then (if (0 : Int) ≤ 0 ∧ (0 : Int) ≤ (IntKind.i64.wrap ((x0_10.length : Int) - 1)) ∧ (IntKind.i64.wrap ((x0_10.length : Int) - 1)) ≤ (x0_10.length : Int) then watchbillref07_trim.l1 k m12 (sl x0_10 0 (IntKind.i64.wrap ((x0_10.length : Int) - 1))) else none) else some x0_10)) else none)
def watchbillref07_trim.l0 (k : Nat) : Nat → Str → Option Str
  | 0, _ => none
  | m3 + 1, x0_1 => (if (((decide ((x0_1.length : Int) > 0)) == true) = true → (0 : Int) ≤ 0 ∧ 0 < (x0_1.length : Int)) then (((if ((decide ((x0_1.length : Int) > 0)) == true) = true then watchbillref07_blank (bt x0_1 0) else some default)).bind fun (t6 : Bool) => (if ((decide ((x0_1.length : Int) > 0)) && t6) = true then (if (0 : Int) ≤ 1 ∧ (1 : Int) ≤ (x0_1.length : Int) ∧ (x0_1.length : Int) ≤ (x0_1.length : Int) then watchbillref07_trim.l0 k m3 (sl x0_1 1 (x0_1.length : Int)) else none) else watchbillref07_trim.l1 k k x0_1)) else none)
def watchbillref07_trim (k : Nat) (a0 : Str) : Option Str := watchbillref07_trim.l0 k k a0
theorem watchbillref07_trim.ok {k : Nat} {a0 : Str} {r : Str} (H : watchbillref07_trim k a0 = some r) : Vx.Fn Tryd.prog 53 [(S a0)] [] (S r) [] := by
  unfold watchbillref07_trim at H
  refine Vx.Fn.of_okR Tryd.func53 rfl (Nat.le_of_ble_eq_true rfl) ?_
  refine Ok.seq ?_
  refine Ok.region (σ' := ⟨[(0, (S a0))], []⟩) ?_ ?_
  · refine .cv (VOk.asg (d := (S ([] : Str))) rfl rfl) rfl rfl ?_
    exact .done (.rf rfl rfl)
  refine Ok.seq ?_
  refine Ok.block ?_
  refine Ok.le (σ' := ⟨[(0, (S a0))], []⟩) (.rf rfl rfl) ?_
  refine Ok.loop (fun m3 σ => ∃ (x0_1 : Str), σ = ⟨[(0, (S x0_1))], []⟩ ∧ watchbillref07_trim.l0 k m3 x0_1 = some r) k ⟨a0, rfl, H⟩ ?_
  rintro m3 σ ⟨x0_1, rfl, H⟩
  cases m3 with
  | zero => exact absurd H (by simp [watchbillref07_trim.l0])
  | succ m3 =>
    unfold watchbillref07_trim.l0 at H
    refine Ok.seq ?_
    refine Ok.seq ?_
    obtain ⟨c5, H⟩ := assertE H
    obtain ⟨t6, h7, H⟩ := bindE H
    refine Ok.region (σ' := ⟨[(0, (S x0_1)), (10, (.v (.bool ((decide ((x0_1.length : Int) > 0)) && t6))))], []⟩) ?_ ?_
    · refine .cv (VOk.mv (d := (S x0_1)) rfl rfl) rfl rfl ?_
      refine .cv (VOk.lenStr (s := x0_1) rfl Tryd.underlying9 rfl) rfl rfl ?_
      refine .cv (VOk.arith (op := .gtr) (k := .i64) (a := (x0_1.length : Int)) (b := 0) rfl rfl rfl rfl) rfl rfl ?_
      refine .cv (VOk.mv (d := (.v (.bool (decide ((x0_1.length : Int) > 0))))) rfl rfl) rfl rfl ?_
      refine OpsOk.consI rfl rfl rfl (.one rfl) rfl (fun hw4 => (VOk.g (VOk.mv (d := (S x0_1)) rfl rfl))) ?_
      refine OpsOk.consI rfl rfl rfl (.one rfl) rfl (fun hw4 => (GOk.fr (fr' := [(7, (S x0_1))]) ⟨DLe.of_eq (cT hw4).symm, trivial⟩ (VOk.g (VOk.indexStr (s := x0_1) (i := 0) rfl Tryd.underlying9 rfl rfl (c5 hw4))))) ?_
      refine OpsOk.consI rfl rfl rfl (.one rfl) rfl (fun hw4 => (GOk.fr (fr' := [(8, (.v (.int .u8 (bt x0_1 0))))]) ⟨DLe.of_eq (cT hw4).symm, trivial⟩ (GOk.call rfl rfl cl51 rfl (watchbillref07_blank.ok (ifT h7 hw4)) rfl))) ?_
      refine .cv (VOk.to (VOk.pickI (b := (decide ((x0_1.length : Int) > 0))) (p := t6) (q := false) rfl rfl (fun hp8 => (cT (t_beq hp8))) (fun hp8 => rfl)) (pickAnd (decide ((x0_1.length : Int) > 0)) t6)) rfl rfl ?_
      exact .done (.rf rfl rfl)
    refine Ok.test (b := ((decide ((x0_1.length : Int) > 0)) && t6)) rfl (fun hb20 => ?_) (fun hb20 => ?_)
    · replace H := ifT H hb20
      refine Ok.skip ?_
      refine Ok.block ?_
      obtain ⟨c9, H⟩ := assertE H
      refine Ok.region (σ' := ⟨[(0, (S (sl x0_1 1 (x0_1.length : Int))))], []⟩) ?_ ?_
      · refine .cv (VOk.mv (d := (S x0_1)) rfl rfl) rfl rfl ?_
        refine .cv (VOk.sliceStr (s := x0_1) (l := 1) (h := (x0_1.length : Int)) rfl Tryd.underlying9 rfl rfl rfl c9) rfl rfl ?_
        refine .cv (VOk.asg (d := (S (sl x0_1 1 (x0_1.length : Int)))) rfl rfl) rfl rfl ?_
        exact .done (.rf rfl rfl)
      exact ⟨m3, Nat.lt_succ_self m3, (sl x0_1 1 (x0_1.length : Int)), rfl, H⟩
    · replace H := ifF H hb20
      refine Ok.exit ?_
      refine Ok.seq ?_
      refine Ok.block ?_
      refine Ok.le (σ' := ⟨[(0, (S x0_1))], []⟩) (.rf rfl rfl) ?_
      refine Ok.loop (fun m12 σ => ∃ (x0_10 : Str), σ = ⟨[(0, (S x0_10))], []⟩ ∧ watchbillref07_trim.l1 k m12 x0_10 = some r) k ⟨x0_1, rfl, H⟩ ?_
      rintro m12 σ ⟨x0_10, rfl, H⟩
      cases m12 with
      | zero => exact absurd H (by simp [watchbillref07_trim.l1])
      | succ m12 =>
        unfold watchbillref07_trim.l1 at H
        refine Ok.seq ?_
        refine Ok.seq ?_
        obtain ⟨c14, H⟩ := assertE H
        obtain ⟨t15, h16, H⟩ := bindE H
        refine Ok.region (σ' := ⟨[(0, (S x0_10)), (23, (.v (.bool ((decide ((x0_10.length : Int) > 0)) && t15))))], []⟩) ?_ ?_
        · refine .cv (VOk.mv (d := (S x0_10)) rfl rfl) rfl rfl ?_
          refine .cv (VOk.lenStr (s := x0_10) rfl Tryd.underlying9 rfl) rfl rfl ?_
          refine .cv (VOk.arith (op := .gtr) (k := .i64) (a := (x0_10.length : Int)) (b := 0) rfl rfl rfl rfl) rfl rfl ?_
          refine .cv (VOk.mv (d := (.v (.bool (decide ((x0_10.length : Int) > 0))))) rfl rfl) rfl rfl ?_
          refine OpsOk.consI rfl rfl rfl (.one rfl) rfl (fun hw13 => (VOk.g (VOk.mv (d := (S x0_10)) rfl rfl))) ?_
          refine OpsOk.consI rfl rfl rfl (.one rfl) rfl (fun hw13 => (VOk.g (VOk.mv (d := (S x0_10)) rfl rfl))) ?_
          refine OpsOk.consI rfl rfl rfl (.one rfl) rfl (fun hw13 => (GOk.fr (fr' := [(18, (S x0_10))]) ⟨DLe.of_eq (cT hw13).symm, trivial⟩ (VOk.g (VOk.lenStr (s := x0_10) rfl Tryd.underlying9 rfl)))) ?_
          refine OpsOk.consI rfl rfl rfl (.one rfl) rfl (fun hw13 => (GOk.fr (fr' := [(19, (.v (.int .i64 (x0_10.length : Int))))]) ⟨DLe.of_eq (cT hw13).symm, trivial⟩ (VOk.g (VOk.arith (op := .sub) (k := .i64) (a := (x0_10.length : Int)) (b := 1) rfl rfl rfl rfl)))) ?_
          refine OpsOk.consI rfl rfl rfl (.one rfl) rfl (fun hw13 => (GOk.fr (fr' := [(17, (S x0_10)), (20, (.v (.int .i64 (IntKind.i64.wrap ((x0_10.length : Int) - 1)))))]) ⟨DLe.of_eq (cT hw13).symm, DLe.of_eq (cT hw13).symm, trivial⟩ (VOk.g (VOk.indexStr (s := x0_10) (i := (IntKind.i64.wrap ((x0_10.length : Int) - 1))) rfl Tryd.underlying9 rfl rfl (c14 hw13))))) ?_
          refine OpsOk.consI rfl rfl rfl (.one rfl) rfl (fun hw13 => (GOk.fr (fr' := [(21, (.v (.int .u8 (bt x0_10 (IntKind.i64.wrap ((x0_10.length : Int) - 1))))))]) ⟨DLe.of_eq (cT hw13).symm, trivial⟩ (GOk.call rfl rfl cl51 rfl (watchbillref07_blank.ok (ifT h16 hw13)) rfl))) ?_
          refine .cv (VOk.to (VOk.pickI (b := (decide ((x0_10.length : Int) > 0))) (p := t15) (q := false) rfl rfl (fun hp17 => (cT (t_beq hp17))) (fun hp17 => rfl)) (pickAnd (decide ((x0_10.length : Int) > 0)) t15)) rfl rfl ?_
          exact .done (.rf rfl rfl)
        refine Ok.test (b := ((decide ((x0_10.length : Int) > 0)) && t15)) rfl (fun hb19 => ?_) (fun hb19 => ?_)
        · replace H := ifT H hb19
          refine Ok.skip ?_
          refine Ok.block ?_
          obtain ⟨c18, H⟩ := assertE H
          refine Ok.region (σ' := ⟨[(0, (S (sl x0_10 0 (IntKind.i64.wrap ((x0_10.length : Int) - 1)))))], []⟩) ?_ ?_
          · refine .cv (VOk.mv (d := (S x0_10)) rfl rfl) rfl rfl ?_
            refine .cv (VOk.mv (d := (S x0_10)) rfl rfl) rfl rfl ?_
            refine .cv (VOk.lenStr (s := x0_10) rfl Tryd.underlying9 rfl) rfl rfl ?_
            refine .cv (VOk.arith (op := .sub) (k := .i64) (a := (x0_10.length : Int)) (b := 1) rfl rfl rfl rfl) rfl rfl ?_
            refine .cv (VOk.sliceStr (s := x0_10) (l := 0) (h := (IntKind.i64.wrap ((x0_10.length : Int) - 1))) rfl Tryd.underlying9 rfl rfl rfl c18) rfl rfl ?_
            refine .cv (VOk.asg (d := (S (sl x0_10 0 (IntKind.i64.wrap ((x0_10.length : Int) - 1))))) rfl rfl) rfl rfl ?_
            exact .done (.rf rfl rfl)
          exact ⟨m12, Nat.lt_succ_self m12, (sl x0_10 0 (IntKind.i64.wrap ((x0_10.length : Int) - 1))), rfl, H⟩
        · replace H := ifF H hb19
          refine Ok.exit ?_
          refine Ok.seq ?_
          refine Ok.region (σ' := ⟨[(2, (S x0_10))], []⟩) ?_ ?_
          · refine .cv (VOk.mv (d := (S x0_10)) rfl rfl) rfl rfl ?_
            refine .cv (VOk.asg (d := (S x0_10)) rfl rfl) rfl rfl ?_
            exact .done (.rf rfl rfl)
          refine Ok.ret ?_
          obtain rfl := Option.some.inj H
          exact ⟨.inl rfl, ⟨_, (.cons (.tmp rfl) .nil), rfl⟩, trivial⟩

end Go.Proofs.YtccgkcejfpbdpaaDoor.Sh
