import Derived.Test.YtccgkcejfpbdpaaDoorProg
import Derived.Test.YtccgkcejfpbdpaaDoorShb
namespace Go.Proofs.YtccgkcejfpbdpaaDoor.Sh
open Go Go.RowKit Go.Proofs.Vx
set_option linter.unusedVariables false

set_option maxRecDepth 100000
set_option maxHeartbeats 1000000
/-! watchbill/watchbillref07.Parse: function 33 -/
def watchbillref07_Parse.l2 (k : Nat) (c0 : List T_api_Field → Int → Option ((List T_api_Field) × Str × Int)) (a0 : Str) (x6_13 : Int) (x7_14 : Str) (t22 : Int) : Nat → List T_api_Field → Int → Option ((List T_api_Field) × Str × Int)
  | 0, _, _ => none
  | m39 + 1, y5_36, x10_35 => (if (((decide (x10_35 < ((x7_14 ++ (sl a0 x6_13 t22)).length : Int))) == true) = true → (0 : Int) ≤ x10_35 ∧ x10_35 < ((x7_14 ++ (sl a0 x6_13 t22)).length : Int)) then (if ((decide (x10_35 < ((x7_14 ++ (sl a0 x6_13 t22)).length : Int))) && ((bt (x7_14 ++ (sl a0 x6_13 t22)) x10_35) != 58)) = true then watchbillref07_Parse.l2 k c0 a0 x6_13 x7_14 t22 m39 y5_36 (IntKind.i64.wrap (x10_35 + 1)) else (if (0 : Int) ≤ 0 ∧ 0 < ((x7_14 ++ (sl a0 x6_13 t22)).length : Int) then ((watchbillref07_blank (bt (x7_14 ++ (sl a0 x6_13 t22)) 0)).bind fun (t44 : Bool) => (if (t44 || (x10_35 == ((x7_14 ++ (sl a0 x6_13 t22)).length : Int))) = true then some (([] : List T_api_Field), ([] : Str), 4) else (if (0 : Int) ≤ 0 ∧ (0 : Int) ≤ x10_35 ∧ x10_35 ≤ ((x7_14 ++ (sl a0 x6_13 t22)).length : Int) then ((watchbillref07_Named k (sl (x7_14 ++ (sl a0 x6_13 t22)) 0 x10_35)).bind fun (t49 : Bool) => (if (!t49) = true then some (([] : List T_api_Field), ([] : Str), 12) else (if (0 : Int) ≤ (IntKind.i64.wrap (x10_35 + 1)) ∧ (IntKind.i64.wrap (x10_35 + 1)) ≤ ((x7_14 ++ (sl a0 x6_13 t22)).length : Int) ∧ ((x7_14 ++ (sl a0 x6_13 t22)).length : Int) ≤ ((x7_14 ++ (sl a0 x6_13 t22)).length : Int) then ((watchbillref07_Plain k (sl (x7_14 ++ (sl a0 x6_13 t22)) (IntKind.i64.wrap (x10_35 + 1)) ((x7_14 ++ (sl a0 x6_13 t22)).length : Int))).bind fun (t52 : Bool) => (if (!t52) = true then some (([] : List T_api_Field), ([] : Str), 4) else (if (0 : Int) ≤ 0 ∧ (0 : Int) ≤ x10_35 ∧ x10_35 ≤ ((x7_14 ++ (sl a0 x6_13 t22)).length : Int) then (if (0 : Int) ≤ (IntKind.i64.wrap (x10_35 + 1)) ∧ (IntKind.i64.wrap (x10_35 + 1)) ≤ ((x7_14 ++ (sl a0 x6_13 t22)).length : Int) ∧ ((x7_14 ++ (sl a0 x6_13 t22)).length : Int) ≤ ((x7_14 ++ (sl a0 x6_13 t22)).length : Int) then ((watchbillref07_trim k (sl (x7_14 ++ (sl a0 x6_13 t22)) (IntKind.i64.wrap (x10_35 + 1)) ((x7_14 ++ (sl a0 x6_13 t22)).length : Int))).bind fun (t56 : Str) => (if (y5_36.length + ([(T_api_Field.mk (sl (x7_14 ++ (sl a0 x6_13 t22)) 0 x10_35) t56)] : List T_api_Field).length) * 32 ≤ 140737488355328 then c0 (y5_36 ++ ([(T_api_Field.mk (sl (x7_14 ++ (sl a0 x6_13 t22)) 0 x10_35) t56)] : List T_api_Field)) (IntKind.i64.wrap (t22 + 2)) else none)) else none) else none))) else none))) else none))) else none)) else none)
def watchbillref07_Parse.l1 (k : Nat) (c0 : List T_api_Field → Int → Option ((List T_api_Field) × Str × Int)) (a0 : Str) : Nat → List T_api_Field → Int → Str → Bool → Option ((List T_api_Field) × Str × Int)
  | 0, _, _, _, _ => none
  | m21 + 1, y5_16, x6_13, x7_14, x8_15 => ((watchbillref07_ends k a0 x6_13).bind fun (t22 : Int) => (if (decide (t22 < 0)) = true then some (([] : List T_api_Field), ([] : Str), 2) else (if (0 : Int) ≤ x6_13 ∧ x6_13 ≤ t22 ∧ t22 ≤ (a0.length : Int) then (if x7_14.length + (sl a0 x6_13 t22).length ≤ 9223372036854775807 then (if (((decide ((IntKind.i64.wrap (t22 + 2)) ≥ (a0.length : Int))) == false) = true → (0 : Int) ≤ (IntKind.i64.wrap (t22 + 2)) ∧ (IntKind.i64.wrap (t22 + 2)) < (a0.length : Int)) then (((if ((decide ((IntKind.i64.wrap (t22 + 2)) ≥ (a0.length : Int))) == false) = true then watchbillref07_blank (bt a0 (IntKind.i64.wrap (t22 + 2))) else some default)).bind fun (t30 : Bool) => (if ((decide ((IntKind.i64.wrap (t22 + 2)) ≥ (a0.length : Int))) || (!t30)) = true then (if (((y5_16.length : Int) == 8) || (x8_15 || (decide ((IntKind.i64.wrap (t22 - x6_13)) > 998)))) = true then some (([] : List T_api_Field), ([] : Str), 3) else watchbillref07_Parse.l2 k (c0) a0 x6_13 x7_14 t22 k y5_16 0) else watchbillref07_Parse.l1 k c0 a0 m21 y5_16 (IntKind.i64.wrap (t22 + 2)) (x7_14 ++ (sl a0 x6_13 t22)) (x8_15 || (decide ((IntKind.i64.wrap (t22 - x6_13)) > 998))))) else none) else none) else none)))
def watchbillref07_Parse.l0 (k : Nat) (a0 : Str) : Nat → List T_api_Field → Int → Option ((List T_api_Field) × Str × Int)
  | 0, _, _ => none
  | m5 + 1, y5_2, x6_1 => (if (((decide ((IntKind.i64.wrap ((a0.length : Int) - x6_1)) ≥ 2)) == true) = true → (0 : Int) ≤ x6_1 ∧ x6_1 < (a0.length : Int)) then (if ((((decide ((IntKind.i64.wrap ((a0.length : Int) - x6_1)) ≥ 2)) && ((bt a0 x6_1) == 13)) == true) = true → (0 : Int) ≤ (IntKind.i64.wrap (x6_1 + 1)) ∧ (IntKind.i64.wrap (x6_1 + 1)) < (a0.length : Int)) then (if (((decide ((IntKind.i64.wrap ((a0.length : Int) - x6_1)) ≥ 2)) && ((bt a0 x6_1) == 13)) && ((bt a0 (IntKind.i64.wrap (x6_1 + 1))) == 10)) = true then (if (0 : Int) ≤ (IntKind.i64.wrap (x6_1 + 2)) ∧ (IntKind.i64.wrap (x6_1 + 2)) ≤ (a0.length : Int) ∧ (a0.length : Int) ≤ (a0.length : Int) then some (y5_2, (sl a0 (IntKind.i64.wrap (x6_1 + 2)) (a0.length : Int)), 0) else none) else watchbillref07_Parse.l1 k (watchbillref07_Parse.l0 k a0 m5) a0 k y5_2 x6_1 ([] : Str) false) else none) else none)
def watchbillref07_Parse (k : Nat) (a0 : Str) : Option ((List T_api_Field) × Str × Int) := watchbillref07_Parse.l0 k a0 k ([] : List T_api_Field) 0
theorem watchbillref07_Parse.ok {k : Nat} {a0 : Str} {r : (List T_api_Field) × Str × Int} (H : watchbillref07_Parse k a0 = some r) : Vx.Fn Tryd.prog 33 [(S a0)] [] (.tup [(L 2 e_api_Field r.1), (S r.2.1), (.v (.int .i64 r.2.2))]) [] := by
  unfold watchbillref07_Parse at H
  refine Vx.Fn.of_okR Tryd.func33 rfl (Nat.le_of_ble_eq_true rfl) ?_
  refine Ok.seq ?_
  refine Ok.region (σ' := ⟨[(0, (S a0))], []⟩) ?_ ?_
  · refine .cv (VOk.asg (d := (.v (.slice none 0 0))) rfl rfl) rfl rfl ?_
    refine .cv (VOk.asg (d := (S ([] : Str))) rfl rfl) rfl rfl ?_
    refine .cv (VOk.asg (d := (.v (.int .i64 0))) rfl rfl) rfl rfl ?_
    exact .done (.rf rfl rfl)
  refine Ok.seq ?_
  refine Ok.region (σ' := ⟨[(0, (S a0)), (5, (.sref 5))], [(5, (.rows true 67 2 (([] : List T_api_Field).map e_api_Field)))]⟩) ?_ ?_
  · refine OpsOk.cons rfl (.nilT 5 67 2 (.inl rfl) rfl rfl) ?_
    exact .done (.rf rfl rfl)
  refine Ok.seq ?_
  refine Ok.region (σ' := ⟨[(0, (S a0)), (5, (.sref 5)), (6, (.v (.int .i64 0)))], [(5, (.rows true 67 2 (([] : List T_api_Field).map e_api_Field)))]⟩) ?_ ?_
  · refine .cv (VOk.asg (d := (.v (.int .i64 0))) rfl rfl) rfl rfl ?_
    exact .done (.rf rfl rfl)
  refine Ok.block ?_
  refine Ok.le (σ' := ⟨[(0, (S a0)), (5, (.sref 5)), (6, (.v (.int .i64 0)))], [(5, (.rows true 67 2 (([] : List T_api_Field).map e_api_Field)))]⟩) (.rf rfl rfl) ?_
  refine Ok.loop (fun m5 σ => ∃ (y5_2 : List T_api_Field) (x6_1 : Int), σ = ⟨[(0, (S a0)), (5, (.sref 5)), (6, (.v (.int .i64 x6_1)))], [(5, (.rows true 67 2 (y5_2.map e_api_Field)))]⟩ ∧ watchbillref07_Parse.l0 k a0 m5 y5_2 x6_1 = some r) k ⟨([] : List T_api_Field), 0, rfl, H⟩ ?_
  rintro m5 σ ⟨y5_2, x6_1, rfl, H⟩
  cases m5 with
  | zero => exact absurd H (by simp [watchbillref07_Parse.l0])
  | succ m5 =>
    unfold watchbillref07_Parse.l0 at H
    refine Ok.block ?_
    refine Ok.seq ?_
    refine Ok.seq ?_
    obtain ⟨c7, H⟩ := assertE H
    obtain ⟨c10, H⟩ := assertE H
    refine Ok.region (σ' := ⟨[(0, (S a0)), (5, (.sref 5)), (6, (.v (.int .i64 x6_1))), (28, (.v (.bool (((decide ((IntKind.i64.wrap ((a0.length : Int) - x6_1)) ≥ 2)) && ((bt a0 x6_1) == 13)) && ((bt a0 (IntKind.i64.wrap (x6_1 + 1))) == 10)))))], [(5, (.rows true 67 2 (y5_2.map e_api_Field)))]⟩) ?_ ?_
    · refine .cv (VOk.mv (d := (S a0)) rfl rfl) rfl rfl ?_
      refine .cv (VOk.lenStr (s := a0) rfl Tryd.underlying9 rfl) rfl rfl ?_
      refine .cv (VOk.mv (d := (.v (.int .i64 x6_1))) rfl rfl) rfl rfl ?_
      refine .cv (VOk.arith (op := .sub) (k := .i64) (a := (a0.length : Int)) (b := x6_1) rfl rfl rfl rfl) rfl rfl ?_
      refine .cv (VOk.arith (op := .geq) (k := .i64) (a := (IntKind.i64.wrap ((a0.length : Int) - x6_1))) (b := 2) rfl rfl rfl rfl) rfl rfl ?_
      refine .cv (VOk.mv (d := (.v (.bool (decide ((IntKind.i64.wrap ((a0.length : Int) - x6_1)) ≥ 2))))) rfl rfl) rfl rfl ?_
      refine OpsOk.consI rfl rfl rfl (.one rfl) rfl (fun hw6 => (VOk.g (VOk.mv (d := (S a0)) rfl rfl))) ?_
      refine OpsOk.consI rfl rfl rfl (.one rfl) rfl (fun hw6 => (VOk.g (VOk.mv (d := (.v (.int .i64 x6_1))) rfl rfl))) ?_
      refine OpsOk.consI rfl rfl rfl (.one rfl) rfl (fun hw6 => (GOk.fr (fr' := [(17, (S a0)), (18, (.v (.int .i64 x6_1)))]) ⟨DLe.of_eq (cT hw6).symm, DLe.of_eq (cT hw6).symm, trivial⟩ (VOk.g (VOk.indexStr (s := a0) (i := x6_1) rfl Tryd.underlying9 rfl rfl (c7 hw6))))) ?_
      refine OpsOk.consI rfl rfl rfl (.one rfl) rfl (fun hw6 => (GOk.fr (fr' := [(19, (.v (.int .u8 (bt a0 x6_1))))]) ⟨DLe.of_eq (cT hw6).symm, trivial⟩ (VOk.g (VOk.arith (op := .eql) (k := .u8) (a := (bt a0 x6_1)) (b := 13) rfl rfl rfl rfl)))) ?_
      refine .cv (VOk.to (VOk.pickI (b := (decide ((IntKind.i64.wrap ((a0.length : Int) - x6_1)) ≥ 2))) (p := ((bt a0 x6_1) == 13)) (q := false) rfl rfl (fun hp8 => (cT (t_beq hp8))) (fun hp8 => rfl)) (pickAnd (decide ((IntKind.i64.wrap ((a0.length : Int) - x6_1)) ≥ 2)) ((bt a0 x6_1) == 13))) rfl rfl ?_
      refine .cv (VOk.mv (d := (.v (.bool ((decide ((IntKind.i64.wrap ((a0.length : Int) - x6_1)) ≥ 2)) && ((bt a0 x6_1) == 13))))) rfl rfl) rfl rfl ?_
      refine OpsOk.consI rfl rfl rfl (.one rfl) rfl (fun hw9 => (VOk.g (VOk.mv (d := (S a0)) rfl rfl))) ?_
      refine OpsOk.consI rfl rfl rfl (.one rfl) rfl (fun hw9 => (VOk.g (VOk.mv (d := (.v (.int .i64 x6_1))) rfl rfl))) ?_
      refine OpsOk.consI rfl rfl rfl (.one rfl) rfl (fun hw9 => (GOk.fr (fr' := [(24, (.v (.int .i64 x6_1)))]) ⟨DLe.of_eq (cT hw9).symm, trivial⟩ (VOk.g (VOk.arith (op := .add) (k := .i64) (a := x6_1) (b := 1) rfl rfl rfl rfl)))) ?_
      refine OpsOk.consI rfl rfl rfl (.one rfl) rfl (fun hw9 => (GOk.fr (fr' := [(23, (S a0)), (25, (.v (.int .i64 (IntKind.i64.wrap (x6_1 + 1)))))]) ⟨DLe.of_eq (cT hw9).symm, DLe.of_eq (cT hw9).symm, trivial⟩ (VOk.g (VOk.indexStr (s := a0) (i := (IntKind.i64.wrap (x6_1 + 1))) rfl Tryd.underlying9 rfl rfl (c10 hw9))))) ?_
      refine OpsOk.consI rfl rfl rfl (.one rfl) rfl (fun hw9 => (GOk.fr (fr' := [(26, (.v (.int .u8 (bt a0 (IntKind.i64.wrap (x6_1 + 1))))))]) ⟨DLe.of_eq (cT hw9).symm, trivial⟩ (VOk.g (VOk.arith (op := .eql) (k := .u8) (a := (bt a0 (IntKind.i64.wrap (x6_1 + 1)))) (b := 10) rfl rfl rfl rfl)))) ?_
      refine .cv (VOk.to (VOk.pickI (b := ((decide ((IntKind.i64.wrap ((a0.length : Int) - x6_1)) ≥ 2)) && ((bt a0 x6_1) == 13))) (p := ((bt a0 (IntKind.i64.wrap (x6_1 + 1))) == 10)) (q := false) rfl rfl (fun hp11 => (cT (t_beq hp11))) (fun hp11 => rfl)) (pickAnd ((decide ((IntKind.i64.wrap ((a0.length : Int) - x6_1)) ≥ 2)) && ((bt a0 x6_1) == 13)) ((bt a0 (IntKind.i64.wrap (x6_1 + 1))) == 10))) rfl rfl ?_
      exact .done (.rf rfl rfl)
    refine Ok.test (b := (((decide ((IntKind.i64.wrap ((a0.length : Int) - x6_1)) ≥ 2)) && ((bt a0 x6_1) == 13)) && ((bt a0 (IntKind.i64.wrap (x6_1 + 1))) == 10))) rfl (fun hb66 => ?_) (fun hb66 => ?_)
    · replace H := ifT H hb66
      refine Ok.seq ?_
      obtain ⟨c12, H⟩ := assertE H
      refine Ok.drawE (σ' := ⟨[(2, (.sref 5)), (3, (S (sl a0 (IntKind.i64.wrap (x6_1 + 2)) (a0.length : Int)))), (4, (.v (.int .i64 0)))], [(5, (.rows true 67 2 (y5_2.map e_api_Field)))]⟩) [⟨true, [(5, (.sref 5))], (.sref 5)⟩, ⟨true, [(0, (S a0))], (S a0)⟩, ⟨true, [(6, (.v (.int .i64 x6_1)))], (.v (.int .i64 x6_1))⟩, ⟨true, [(31, (.v (.int .i64 x6_1)))], (.v (.int .i64 (IntKind.i64.wrap (x6_1 + 2))))⟩, ⟨true, [(30, (S a0)), (32, (.v (.int .i64 (IntKind.i64.wrap (x6_1 + 2)))))], (S (sl a0 (IntKind.i64.wrap (x6_1 + 2)) (a0.length : Int)))⟩, ⟨true, [(29, (.sref 5))], (.sref 5)⟩, ⟨true, [(33, (S (sl a0 (IntKind.i64.wrap (x6_1 + 2)) (a0.length : Int))))], (S (sl a0 (IntKind.i64.wrap (x6_1 + 2)) (a0.length : Int)))⟩, ⟨true, [], (.v (.int .i64 0))⟩] [[], [], [], [2], [1, 3], [0], [4], []] mixed (by kernel_rfl) ?_ ?_
      · refine TxtE.cons rfl ⟨.same _, trivial⟩ rfl (VOk.g (VOk.mv (d := (.sref 5)) rfl rfl)) ?_
        refine TxtE.cons rfl ⟨.same _, trivial⟩ rfl (VOk.g (VOk.mv (d := (S a0)) rfl rfl)) ?_
        refine TxtE.cons rfl ⟨.same _, trivial⟩ rfl (VOk.g (VOk.mv (d := (.v (.int .i64 x6_1))) rfl rfl)) ?_
        refine TxtE.cons rfl ⟨.same _, trivial⟩ rfl (VOk.g (VOk.arith (op := .add) (k := .i64) (a := x6_1) (b := 2) rfl rfl rfl rfl)) ?_
        refine TxtE.cons rfl ⟨.same _, .same _, trivial⟩ rfl (VOk.g (VOk.sliceStr (s := a0) (l := (IntKind.i64.wrap (x6_1 + 2))) (h := (a0.length : Int)) rfl Tryd.underlying9 rfl rfl rfl c12)) ?_
        refine TxtE.cons rfl ⟨.same _, trivial⟩ rfl (VOk.g (VOk.asg (d := (.sref 5)) rfl rfl)) ?_
        refine TxtE.cons rfl ⟨.same _, trivial⟩ rfl (VOk.g (VOk.asg (d := (S (sl a0 (IntKind.i64.wrap (x6_1 + 2)) (a0.length : Int)))) rfl rfl)) ?_
        refine TxtE.cons rfl trivial rfl (VOk.g (VOk.asg (d := (.v (.int .i64 0))) rfl rfl)) ?_
        exact .done (.rf rfl rfl)
      refine Ok.frzL 5 (e := e_api_Field) (xs := y5_2) rfl ?_
      refine Ok.ret ?_
      obtain rfl := Option.some.inj H
      exact ⟨.inl rfl, ⟨_, (.cons (.tmp rfl) (.cons (.tmp rfl) (.cons (.tmp rfl) .nil))), rfl⟩, trivial⟩
    · replace H := ifF H hb66
      refine Ok.skip ?_
      refine Ok.seq ?_
      refine Ok.region (σ' := ⟨[(0, (S a0)), (5, (.sref 5)), (6, (.v (.int .i64 x6_1))), (7, (S ([] : Str)))], [(5, (.rows true 67 2 (y5_2.map e_api_Field)))]⟩) ?_ ?_
      · refine .cv (VOk.asg (d := (S ([] : Str))) rfl rfl) rfl rfl ?_
        exact .done (.rf rfl rfl)
      refine Ok.seq ?_
      refine Ok.region (σ' := ⟨[(0, (S a0)), (5, (.sref 5)), (6, (.v (.int .i64 x6_1))), (7, (S ([] : Str))), (8, (.v (.bool false)))], [(5, (.rows true 67 2 (y5_2.map e_api_Field)))]⟩) ?_ ?_
      · refine .cv (VOk.asg (d := (.v (.bool false))) rfl rfl) rfl rfl ?_
        exact .done (.rf rfl rfl)
      refine Ok.seq ?_
      refine Ok.block ?_
      refine Ok.le (σ' := ⟨[(0, (S a0)), (5, (.sref 5)), (6, (.v (.int .i64 x6_1))), (7, (S ([] : Str))), (8, (.v (.bool false)))], [(5, (.rows true 67 2 (y5_2.map e_api_Field)))]⟩) (.rf rfl rfl) ?_
      refine Ok.loop (fun m21 σ => ∃ (y5_16 : List T_api_Field) (x6_13 : Int) (x7_14 : Str) (x8_15 : Bool), σ = ⟨[(0, (S a0)), (5, (.sref 5)), (6, (.v (.int .i64 x6_13))), (7, (S x7_14)), (8, (.v (.bool x8_15)))], [(5, (.rows true 67 2 (y5_16.map e_api_Field)))]⟩ ∧ watchbillref07_Parse.l1 k (watchbillref07_Parse.l0 k a0 m5) a0 m21 y5_16 x6_13 x7_14 x8_15 = some r) k ⟨y5_2, x6_1, ([] : Str), false, rfl, H⟩ ?_
      rintro m21 σ ⟨y5_16, x6_13, x7_14, x8_15, rfl, H⟩
      cases m21 with
      | zero => exact absurd H (by simp [watchbillref07_Parse.l1])
      | succ m21 =>
        unfold watchbillref07_Parse.l1 at H
        refine Ok.block ?_
        refine Ok.seq ?_
        obtain ⟨t22, h23, H⟩ := bindE H
        refine Ok.region (σ' := ⟨[(0, (S a0)), (5, (.sref 5)), (6, (.v (.int .i64 x6_13))), (7, (S x7_14)), (8, (.v (.bool x8_15))), (9, (.v (.int .i64 t22)))], [(5, (.rows true 67 2 (y5_16.map e_api_Field)))]⟩) ?_ ?_
        · refine .cv (VOk.mv (d := (S a0)) rfl rfl) rfl rfl ?_
          refine .cv (VOk.mv (d := (.v (.int .i64 x6_13))) rfl rfl) rfl rfl ?_
          refine .cg (GOk.call rfl rfl cl50 rfl (watchbillref07_ends.ok h23) rfl) rfl rfl ?_
          refine .cv (VOk.asg (d := (.v (.int .i64 t22))) rfl rfl) rfl rfl ?_
          exact .done (.rf rfl rfl)
        refine Ok.seq ?_
        refine Ok.seq ?_
        refine Ok.region (σ' := ⟨[(0, (S a0)), (5, (.sref 5)), (6, (.v (.int .i64 x6_13))), (7, (S x7_14)), (8, (.v (.bool x8_15))), (9, (.v (.int .i64 t22))), (38, (.v (.bool (decide (t22 < 0)))))], [(5, (.rows true 67 2 (y5_16.map e_api_Field)))]⟩) ?_ ?_
        · refine .cv (VOk.mv (d := (.v (.int .i64 t22))) rfl rfl) rfl rfl ?_
          refine .cv (VOk.arith (op := .lss) (k := .i64) (a := t22) (b := 0) rfl rfl rfl rfl) rfl rfl ?_
          exact .done (.rf rfl rfl)
        refine Ok.test (b := (decide (t22 < 0))) rfl (fun hb65 => ?_) (fun hb65 => ?_)
        · replace H := ifT H hb65
          refine Ok.seq ?_
          refine Ok.region (σ' := ⟨[(2, (.v (.slice none 0 0))), (3, (S ([] : Str))), (4, (.v (.int .i64 2)))], []⟩) ?_ ?_
          · refine .cv (VOk.asg (d := (.v (.slice none 0 0))) rfl rfl) rfl rfl ?_
            refine .cv (VOk.asg (d := (S ([] : Str))) rfl rfl) rfl rfl ?_
            refine .cv (VOk.asg (d := (.v (.int .i64 2))) rfl rfl) rfl rfl ?_
            exact .done (.rf rfl rfl)
          refine Ok.le (σ' := ⟨[(2, (L 2 e_api_Field ([] : List T_api_Field))), (3, (S ([] : Str))), (4, (.v (.int .i64 2)))], []⟩) (.mk ⟨.nil _, .same _, .same _, trivial⟩ trivial) ?_
          refine Ok.ret ?_
          obtain rfl := Option.some.inj H
          exact ⟨.inl rfl, ⟨_, (.cons (.tmp rfl) (.cons (.tmp rfl) (.cons (.tmp rfl) .nil))), rfl⟩, trivial⟩
        · replace H := ifF H hb65
          refine Ok.skip ?_
          refine Ok.seq ?_
          obtain ⟨c24, H⟩ := assertE H
          obtain ⟨c25, H⟩ := assertE H
          refine Ok.region (σ' := ⟨[(0, (S a0)), (5, (.sref 5)), (6, (.v (.int .i64 x6_13))), (7, (S (x7_14 ++ (sl a0 x6_13 t22)))), (8, (.v (.bool x8_15))), (9, (.v (.int .i64 t22)))], [(5, (.rows true 67 2 (y5_16.map e_api_Field)))]⟩) ?_ ?_
          · refine .cv (VOk.mv (d := (S x7_14)) rfl rfl) rfl rfl ?_
            refine .cv (VOk.mv (d := (S a0)) rfl rfl) rfl rfl ?_
            refine .cv (VOk.mv (d := (.v (.int .i64 x6_13))) rfl rfl) rfl rfl ?_
            refine .cv (VOk.mv (d := (.v (.int .i64 t22))) rfl rfl) rfl rfl ?_
            refine .cv (VOk.sliceStr (s := a0) (l := x6_13) (h := t22) rfl Tryd.underlying9 rfl rfl rfl c24) rfl rfl ?_
            refine .cv (VOk.cat (a := x7_14) (b := (sl a0 x6_13 t22)) rfl rfl rfl c25) rfl rfl ?_
            refine .cv (VOk.asg (d := (S (x7_14 ++ (sl a0 x6_13 t22)))) rfl rfl) rfl rfl ?_
            exact .done (.rf rfl rfl)
          refine Ok.seq ?_
          refine Ok.region (σ' := ⟨[(0, (S a0)), (5, (.sref 5)), (7, (S (x7_14 ++ (sl a0 x6_13 t22)))), (8, (.v (.bool (x8_15 || (decide ((IntKind.i64.wrap (t22 - x6_13)) > 998)))))), (9, (.v (.int .i64 t22)))], [(5, (.rows true 67 2 (y5_16.map e_api_Field)))]⟩) ?_ ?_
          · refine .cv (VOk.mv (d := (.v (.bool x8_15))) rfl rfl) rfl rfl ?_
            refine .cv (VOk.mv (d := (.v (.bool x8_15))) rfl rfl) rfl rfl ?_
            refine OpsOk.consI rfl rfl rfl (.one rfl) rfl (fun hw26 => (VOk.g (VOk.mv (d := (.v (.int .i64 t22))) rfl rfl))) ?_
            refine OpsOk.consI rfl rfl rfl (.one rfl) rfl (fun hw26 => (VOk.g (VOk.mv (d := (.v (.int .i64 x6_13))) rfl rfl))) ?_
            refine OpsOk.consI rfl rfl rfl (.one rfl) rfl (fun hw26 => (GOk.fr (fr' := [(47, (.v (.int .i64 t22))), (48, (.v (.int .i64 x6_13)))]) ⟨DLe.of_eq (cT hw26).symm, DLe.of_eq (cT hw26).symm, trivial⟩ (VOk.g (VOk.arith (op := .sub) (k := .i64) (a := t22) (b := x6_13) rfl rfl rfl rfl)))) ?_
            refine OpsOk.consI rfl rfl rfl (.one rfl) rfl (fun hw26 => (GOk.fr (fr' := [(49, (.v (.int .i64 (IntKind.i64.wrap (t22 - x6_13)))))]) ⟨DLe.of_eq (cT hw26).symm, trivial⟩ (VOk.g (VOk.arith (op := .gtr) (k := .i64) (a := (IntKind.i64.wrap (t22 - x6_13))) (b := 998) rfl rfl rfl rfl)))) ?_
            refine .cv (VOk.to (VOk.pickI (b := x8_15) (p := true) (q := (decide ((IntKind.i64.wrap (t22 - x6_13)) > 998))) rfl rfl (fun hp27 => rfl) (fun hp27 => (cT (f_beq hp27)))) (pickOr x8_15 (decide ((IntKind.i64.wrap (t22 - x6_13)) > 998)))) rfl rfl ?_
            refine .cv (VOk.asg (d := (.v (.bool (x8_15 || (decide ((IntKind.i64.wrap (t22 - x6_13)) > 998)))))) rfl rfl) rfl rfl ?_
            exact .done (.rf rfl rfl)
          refine Ok.seq ?_
          refine Ok.region (σ' := ⟨[(0, (S a0)), (5, (.sref 5)), (6, (.v (.int .i64 (IntKind.i64.wrap (t22 + 2))))), (7, (S (x7_14 ++ (sl a0 x6_13 t22)))), (8, (.v (.bool (x8_15 || (decide ((IntKind.i64.wrap (t22 - x6_13)) > 998))))))], [(5, (.rows true 67 2 (y5_16.map e_api_Field)))]⟩) ?_ ?_
          · refine .cv (VOk.mv (d := (.v (.int .i64 t22))) rfl rfl) rfl rfl ?_
            refine .cv (VOk.arith (op := .add) (k := .i64) (a := t22) (b := 2) rfl rfl rfl rfl) rfl rfl ?_
            refine .cv (VOk.asg (d := (.v (.int .i64 (IntKind.i64.wrap (t22 + 2))))) rfl rfl) rfl rfl ?_
            exact .done (.rf rfl rfl)
          refine Ok.seq ?_
          obtain ⟨c29, H⟩ := assertE H
          obtain ⟨t30, h31, H⟩ := bindE H
          refine Ok.region (σ' := ⟨[(0, (S a0)), (5, (.sref 5)), (6, (.v (.int .i64 (IntKind.i64.wrap (t22 + 2))))), (7, (S (x7_14 ++ (sl a0 x6_13 t22)))), (8, (.v (.bool (x8_15 || (decide ((IntKind.i64.wrap (t22 - x6_13)) > 998)))))), (64, (.v (.bool ((decide ((IntKind.i64.wrap (t22 + 2)) ≥ (a0.length : Int))) || (!t30)))))], [(5, (.rows true 67 2 (y5_16.map e_api_Field)))]⟩) ?_ ?_
          · refine .cv (VOk.mv (d := (.v (.int .i64 (IntKind.i64.wrap (t22 + 2))))) rfl rfl) rfl rfl ?_
            refine .cv (VOk.mv (d := (S a0)) rfl rfl) rfl rfl ?_
            refine .cv (VOk.lenStr (s := a0) rfl Tryd.underlying9 rfl) rfl rfl ?_
            refine .cv (VOk.arith (op := .geq) (k := .i64) (a := (IntKind.i64.wrap (t22 + 2))) (b := (a0.length : Int)) rfl rfl rfl rfl) rfl rfl ?_
            refine .cv (VOk.mv (d := (.v (.bool (decide ((IntKind.i64.wrap (t22 + 2)) ≥ (a0.length : Int)))))) rfl rfl) rfl rfl ?_
            refine OpsOk.consI rfl rfl rfl (.one rfl) rfl (fun hw28 => (VOk.g (VOk.mv (d := (S a0)) rfl rfl))) ?_
            refine OpsOk.consI rfl rfl rfl (.one rfl) rfl (fun hw28 => (VOk.g (VOk.mv (d := (.v (.int .i64 (IntKind.i64.wrap (t22 + 2))))) rfl rfl))) ?_
            refine OpsOk.consI rfl rfl rfl (.one rfl) rfl (fun hw28 => (GOk.fr (fr' := [(59, (S a0)), (60, (.v (.int .i64 (IntKind.i64.wrap (t22 + 2)))))]) ⟨DLe.of_eq (cT hw28).symm, DLe.of_eq (cT hw28).symm, trivial⟩ (VOk.g (VOk.indexStr (s := a0) (i := (IntKind.i64.wrap (t22 + 2))) rfl Tryd.underlying9 rfl rfl (c29 hw28))))) ?_
            refine OpsOk.consI rfl rfl rfl (.one rfl) rfl (fun hw28 => (GOk.fr (fr' := [(61, (.v (.int .u8 (bt a0 (IntKind.i64.wrap (t22 + 2))))))]) ⟨DLe.of_eq (cT hw28).symm, trivial⟩ (GOk.call rfl rfl cl51 rfl (watchbillref07_blank.ok (ifT h31 hw28)) rfl))) ?_
            refine OpsOk.consI rfl rfl rfl (.one rfl) rfl (fun hw28 => (GOk.fr (fr' := [(62, (.v (.bool t30)))]) ⟨DLe.of_eq (cT hw28).symm, trivial⟩ (VOk.g (VOk.not (b := t30) rfl rfl)))) ?_
            refine .cv (VOk.to (VOk.pickI (b := (decide ((IntKind.i64.wrap (t22 + 2)) ≥ (a0.length : Int)))) (p := true) (q := (!t30)) rfl rfl (fun hp32 => rfl) (fun hp32 => (cT (f_beq hp32)))) (pickOr (decide ((IntKind.i64.wrap (t22 + 2)) ≥ (a0.length : Int))) (!t30))) rfl rfl ?_
            exact .done (.rf rfl rfl)
          refine Ok.test (b := ((decide ((IntKind.i64.wrap (t22 + 2)) ≥ (a0.length : Int))) || (!t30))) rfl (fun hb64 => ?_) (fun hb64 => ?_)
          · replace H := ifT H hb64
            refine Ok.exit ?_
            refine Ok.seq ?_
            refine Ok.seq ?_
            refine Ok.region (σ' := ⟨[(0, (S a0)), (5, (.sref 5)), (6, (.v (.int .i64 (IntKind.i64.wrap (t22 + 2))))), (7, (S (x7_14 ++ (sl a0 x6_13 t22)))), (70, (.v (.bool (((y5_16.length : Int) == 8) || (x8_15 || (decide ((IntKind.i64.wrap (t22 - x6_13)) > 998)))))))], [(5, (.rows true 67 2 (y5_16.map e_api_Field)))]⟩) ?_ ?_
            · refine .cv (VOk.mv (d := (.sref 5)) rfl rfl) rfl rfl ?_
              refine .cv (VOk.lenTL (e := e_api_Field) (xs := y5_16) rfl Tryd.underlying41 rfl rfl) rfl rfl ?_
              refine .cv (VOk.arith (op := .eql) (k := .i64) (a := (y5_16.length : Int)) (b := 8) rfl rfl rfl rfl) rfl rfl ?_
              refine .cv (VOk.mv (d := (.v (.bool ((y5_16.length : Int) == 8)))) rfl rfl) rfl rfl ?_
              refine OpsOk.consI rfl rfl rfl (.one rfl) rfl (fun hw33 => (VOk.g (VOk.mv (d := (.v (.bool (x8_15 || (decide ((IntKind.i64.wrap (t22 - x6_13)) > 998)))))) rfl rfl))) ?_
              refine .cv (VOk.to (VOk.pickI (b := ((y5_16.length : Int) == 8)) (p := true) (q := (x8_15 || (decide ((IntKind.i64.wrap (t22 - x6_13)) > 998)))) rfl rfl (fun hp34 => rfl) (fun hp34 => (cT (f_beq hp34)))) (pickOr ((y5_16.length : Int) == 8) (x8_15 || (decide ((IntKind.i64.wrap (t22 - x6_13)) > 998))))) rfl rfl ?_
              exact .done (.rf rfl rfl)
            refine Ok.test (b := (((y5_16.length : Int) == 8) || (x8_15 || (decide ((IntKind.i64.wrap (t22 - x6_13)) > 998))))) rfl (fun hb63 => ?_) (fun hb63 => ?_)
            · replace H := ifT H hb63
              refine Ok.seq ?_
              refine Ok.region (σ' := ⟨[(2, (.v (.slice none 0 0))), (3, (S ([] : Str))), (4, (.v (.int .i64 3)))], []⟩) ?_ ?_
              · refine .cv (VOk.asg (d := (.v (.slice none 0 0))) rfl rfl) rfl rfl ?_
                refine .cv (VOk.asg (d := (S ([] : Str))) rfl rfl) rfl rfl ?_
                refine .cv (VOk.asg (d := (.v (.int .i64 3))) rfl rfl) rfl rfl ?_
                exact .done (.rf rfl rfl)
              refine Ok.le (σ' := ⟨[(2, (L 2 e_api_Field ([] : List T_api_Field))), (3, (S ([] : Str))), (4, (.v (.int .i64 3)))], []⟩) (.mk ⟨.nil _, .same _, .same _, trivial⟩ trivial) ?_
              refine Ok.ret ?_
              obtain rfl := Option.some.inj H
              exact ⟨.inl rfl, ⟨_, (.cons (.tmp rfl) (.cons (.tmp rfl) (.cons (.tmp rfl) .nil))), rfl⟩, trivial⟩
            · replace H := ifF H hb63
              refine Ok.skip ?_
              refine Ok.seq ?_
              refine Ok.region (σ' := ⟨[(0, (S a0)), (5, (.sref 5)), (6, (.v (.int .i64 (IntKind.i64.wrap (t22 + 2))))), (7, (S (x7_14 ++ (sl a0 x6_13 t22)))), (10, (.v (.int .i64 0)))], [(5, (.rows true 67 2 (y5_16.map e_api_Field)))]⟩) ?_ ?_
              · refine .cv (VOk.asg (d := (.v (.int .i64 0))) rfl rfl) rfl rfl ?_
                exact .done (.rf rfl rfl)
              refine Ok.seq ?_
              refine Ok.block ?_
              refine Ok.le (σ' := ⟨[(0, (S a0)), (5, (.sref 5)), (6, (.v (.int .i64 (IntKind.i64.wrap (t22 + 2))))), (7, (S (x7_14 ++ (sl a0 x6_13 t22)))), (10, (.v (.int .i64 0)))], [(5, (.rows true 67 2 (y5_16.map e_api_Field)))]⟩) (.rf rfl rfl) ?_
              refine Ok.loop (fun m39 σ => ∃ (y5_36 : List T_api_Field) (x10_35 : Int), σ = ⟨[(0, (S a0)), (5, (.sref 5)), (6, (.v (.int .i64 (IntKind.i64.wrap (t22 + 2))))), (7, (S (x7_14 ++ (sl a0 x6_13 t22)))), (10, (.v (.int .i64 x10_35)))], [(5, (.rows true 67 2 (y5_36.map e_api_Field)))]⟩ ∧ watchbillref07_Parse.l2 k (watchbillref07_Parse.l0 k a0 m5) a0 x6_13 x7_14 t22 m39 y5_36 x10_35 = some r) k ⟨y5_16, 0, rfl, H⟩ ?_
              rintro m39 σ ⟨y5_36, x10_35, rfl, H⟩
              cases m39 with
              | zero => exact absurd H (by simp [watchbillref07_Parse.l2])
              | succ m39 =>
                unfold watchbillref07_Parse.l2 at H
                refine Ok.seq ?_
                refine Ok.seq ?_
                obtain ⟨c41, H⟩ := assertE H
                refine Ok.region (σ' := ⟨[(0, (S a0)), (5, (.sref 5)), (6, (.v (.int .i64 (IntKind.i64.wrap (t22 + 2))))), (7, (S (x7_14 ++ (sl a0 x6_13 t22)))), (10, (.v (.int .i64 x10_35))), (80, (.v (.bool ((decide (x10_35 < ((x7_14 ++ (sl a0 x6_13 t22)).length : Int))) && ((bt (x7_14 ++ (sl a0 x6_13 t22)) x10_35) != 58)))))], [(5, (.rows true 67 2 (y5_36.map e_api_Field)))]⟩) ?_ ?_
                · refine .cv (VOk.mv (d := (.v (.int .i64 x10_35))) rfl rfl) rfl rfl ?_
                  refine .cv (VOk.mv (d := (S (x7_14 ++ (sl a0 x6_13 t22)))) rfl rfl) rfl rfl ?_
                  refine .cv (VOk.lenStr (s := (x7_14 ++ (sl a0 x6_13 t22))) rfl Tryd.underlying9 rfl) rfl rfl ?_
                  refine .cv (VOk.arith (op := .lss) (k := .i64) (a := x10_35) (b := ((x7_14 ++ (sl a0 x6_13 t22)).length : Int)) rfl rfl rfl rfl) rfl rfl ?_
                  refine .cv (VOk.mv (d := (.v (.bool (decide (x10_35 < ((x7_14 ++ (sl a0 x6_13 t22)).length : Int)))))) rfl rfl) rfl rfl ?_
                  refine OpsOk.consI rfl rfl rfl (.one rfl) rfl (fun hw40 => (VOk.g (VOk.mv (d := (S (x7_14 ++ (sl a0 x6_13 t22)))) rfl rfl))) ?_
                  refine OpsOk.consI rfl rfl rfl (.one rfl) rfl (fun hw40 => (VOk.g (VOk.mv (d := (.v (.int .i64 x10_35))) rfl rfl))) ?_
                  refine OpsOk.consI rfl rfl rfl (.one rfl) rfl (fun hw40 => (GOk.fr (fr' := [(76, (S (x7_14 ++ (sl a0 x6_13 t22)))), (77, (.v (.int .i64 x10_35)))]) ⟨DLe.of_eq (cT hw40).symm, DLe.of_eq (cT hw40).symm, trivial⟩ (VOk.g (VOk.indexStr (s := (x7_14 ++ (sl a0 x6_13 t22))) (i := x10_35) rfl Tryd.underlying9 rfl rfl (c41 hw40))))) ?_
                  refine OpsOk.consI rfl rfl rfl (.one rfl) rfl (fun hw40 => (GOk.fr (fr' := [(78, (.v (.int .u8 (bt (x7_14 ++ (sl a0 x6_13 t22)) x10_35))))]) ⟨DLe.of_eq (cT hw40).symm, trivial⟩ (VOk.g (VOk.arith (op := .neq) (k := .u8) (a := (bt (x7_14 ++ (sl a0 x6_13 t22)) x10_35)) (b := 58) rfl rfl rfl rfl)))) ?_
                  refine .cv (VOk.to (VOk.pickI (b := (decide (x10_35 < ((x7_14 ++ (sl a0 x6_13 t22)).length : Int)))) (p := ((bt (x7_14 ++ (sl a0 x6_13 t22)) x10_35) != 58)) (q := false) rfl rfl (fun hp42 => (cT (t_beq hp42))) (fun hp42 => rfl)) (pickAnd (decide (x10_35 < ((x7_14 ++ (sl a0 x6_13 t22)).length : Int))) ((bt (x7_14 ++ (sl a0 x6_13 t22)) x10_35) != 58))) rfl rfl ?_
                  exact .done (.rf rfl rfl)
                refine Ok.test (b := ((decide (x10_35 < ((x7_14 ++ (sl a0 x6_13 t22)).length : Int))) && ((bt (x7_14 ++ (sl a0 x6_13 t22)) x10_35) != 58))) rfl (fun hb62 => ?_) (fun hb62 => ?_)
                · replace H := ifT H hb62
                  refine Ok.skip ?_
                  refine Ok.block ?_
                  refine Ok.region (σ' := ⟨[(0, (S a0)), (5, (.sref 5)), (6, (.v (.int .i64 (IntKind.i64.wrap (t22 + 2))))), (7, (S (x7_14 ++ (sl a0 x6_13 t22)))), (10, (.v (.int .i64 (IntKind.i64.wrap (x10_35 + 1)))))], [(5, (.rows true 67 2 (y5_36.map e_api_Field)))]⟩) ?_ ?_
                  · refine .cv (VOk.mv (d := (.v (.int .i64 x10_35))) rfl rfl) rfl rfl ?_
                    refine .cv (VOk.arith (op := .add) (k := .i64) (a := x10_35) (b := 1) rfl rfl rfl rfl) rfl rfl ?_
                    refine .cv (VOk.asg (d := (.v (.int .i64 (IntKind.i64.wrap (x10_35 + 1))))) rfl rfl) rfl rfl ?_
                    exact .done (.rf rfl rfl)
                  exact ⟨m39, Nat.lt_succ_self m39, y5_36, (IntKind.i64.wrap (x10_35 + 1)), rfl, H⟩
                · replace H := ifF H hb62
                  refine Ok.exit ?_
                  refine Ok.seq ?_
                  refine Ok.seq ?_
                  obtain ⟨c43, H⟩ := assertE H
                  obtain ⟨t44, h45, H⟩ := bindE H
                  refine Ok.region (σ' := ⟨[(0, (S a0)), (5, (.sref 5)), (6, (.v (.int .i64 (IntKind.i64.wrap (t22 + 2))))), (7, (S (x7_14 ++ (sl a0 x6_13 t22)))), (10, (.v (.int .i64 x10_35))), (91, (.v (.bool (t44 || (x10_35 == ((x7_14 ++ (sl a0 x6_13 t22)).length : Int))))))], [(5, (.rows true 67 2 (y5_36.map e_api_Field)))]⟩) ?_ ?_
                  · refine .cv (VOk.mv (d := (S (x7_14 ++ (sl a0 x6_13 t22)))) rfl rfl) rfl rfl ?_
                    refine .cv (VOk.indexStr (s := (x7_14 ++ (sl a0 x6_13 t22))) (i := 0) rfl Tryd.underlying9 rfl rfl c43) rfl rfl ?_
                    refine .cg (GOk.call rfl rfl cl51 rfl (watchbillref07_blank.ok h45) rfl) rfl rfl ?_
                    refine .cv (VOk.mv (d := (.v (.bool t44))) rfl rfl) rfl rfl ?_
                    refine OpsOk.consI rfl rfl rfl (.one rfl) rfl (fun hw46 => (VOk.g (VOk.mv (d := (.v (.int .i64 x10_35))) rfl rfl))) ?_
                    refine OpsOk.consI rfl rfl rfl (.one rfl) rfl (fun hw46 => (VOk.g (VOk.mv (d := (S (x7_14 ++ (sl a0 x6_13 t22)))) rfl rfl))) ?_
                    refine OpsOk.consI rfl rfl rfl (.one rfl) rfl (fun hw46 => (GOk.fr (fr' := [(88, (S (x7_14 ++ (sl a0 x6_13 t22))))]) ⟨DLe.of_eq (cT hw46).symm, trivial⟩ (VOk.g (VOk.lenStr (s := (x7_14 ++ (sl a0 x6_13 t22))) rfl Tryd.underlying9 rfl)))) ?_
                    refine OpsOk.consI rfl rfl rfl (.one rfl) rfl (fun hw46 => (GOk.fr (fr' := [(87, (.v (.int .i64 x10_35))), (89, (.v (.int .i64 ((x7_14 ++ (sl a0 x6_13 t22)).length : Int))))]) ⟨DLe.of_eq (cT hw46).symm, DLe.of_eq (cT hw46).symm, trivial⟩ (VOk.g (VOk.arith (op := .eql) (k := .i64) (a := x10_35) (b := ((x7_14 ++ (sl a0 x6_13 t22)).length : Int)) rfl rfl rfl rfl)))) ?_
                    refine .cv (VOk.to (VOk.pickI (b := t44) (p := true) (q := (x10_35 == ((x7_14 ++ (sl a0 x6_13 t22)).length : Int))) rfl rfl (fun hp47 => rfl) (fun hp47 => (cT (f_beq hp47)))) (pickOr t44 (x10_35 == ((x7_14 ++ (sl a0 x6_13 t22)).length : Int)))) rfl rfl ?_
                    exact .done (.rf rfl rfl)
                  refine Ok.test (b := (t44 || (x10_35 == ((x7_14 ++ (sl a0 x6_13 t22)).length : Int)))) rfl (fun hb61 => ?_) (fun hb61 => ?_)
                  · replace H := ifT H hb61
                    refine Ok.seq ?_
                    refine Ok.region (σ' := ⟨[(2, (.v (.slice none 0 0))), (3, (S ([] : Str))), (4, (.v (.int .i64 4)))], []⟩) ?_ ?_
                    · refine .cv (VOk.asg (d := (.v (.slice none 0 0))) rfl rfl) rfl rfl ?_
                      refine .cv (VOk.asg (d := (S ([] : Str))) rfl rfl) rfl rfl ?_
                      refine .cv (VOk.asg (d := (.v (.int .i64 4))) rfl rfl) rfl rfl ?_
                      exact .done (.rf rfl rfl)
                    refine Ok.le (σ' := ⟨[(2, (L 2 e_api_Field ([] : List T_api_Field))), (3, (S ([] : Str))), (4, (.v (.int .i64 4)))], []⟩) (.mk ⟨.nil _, .same _, .same _, trivial⟩ trivial) ?_
                    refine Ok.ret ?_
                    obtain rfl := Option.some.inj H
                    exact ⟨.inl rfl, ⟨_, (.cons (.tmp rfl) (.cons (.tmp rfl) (.cons (.tmp rfl) .nil))), rfl⟩, trivial⟩
                  · replace H := ifF H hb61
                    refine Ok.skip ?_
                    refine Ok.seq ?_
                    refine Ok.seq ?_
                    obtain ⟨c48, H⟩ := assertE H
                    obtain ⟨t49, h50, H⟩ := bindE H
                    refine Ok.region (σ' := ⟨[(0, (S a0)), (5, (.sref 5)), (6, (.v (.int .i64 (IntKind.i64.wrap (t22 + 2))))), (7, (S (x7_14 ++ (sl a0 x6_13 t22)))), (10, (.v (.int .i64 x10_35))), (96, (.v (.bool (!t49))))], [(5, (.rows true 67 2 (y5_36.map e_api_Field)))]⟩) ?_ ?_
                    · refine .cv (VOk.mv (d := (S (x7_14 ++ (sl a0 x6_13 t22)))) rfl rfl) rfl rfl ?_
                      refine .cv (VOk.mv (d := (.v (.int .i64 x10_35))) rfl rfl) rfl rfl ?_
                      refine .cv (VOk.sliceStr (s := (x7_14 ++ (sl a0 x6_13 t22))) (l := 0) (h := x10_35) rfl Tryd.underlying9 rfl rfl rfl c48) rfl rfl ?_
                      refine .cg (GOk.call rfl rfl cl40 rfl (watchbillref07_Named.ok h50) rfl) rfl rfl ?_
                      refine .cv (VOk.not (b := t49) rfl rfl) rfl rfl ?_
                      exact .done (.rf rfl rfl)
                    refine Ok.test (b := (!t49)) rfl (fun hb60 => ?_) (fun hb60 => ?_)
                    · replace H := ifT H hb60
                      refine Ok.seq ?_
                      refine Ok.region (σ' := ⟨[(2, (.v (.slice none 0 0))), (3, (S ([] : Str))), (4, (.v (.int .i64 12)))], []⟩) ?_ ?_
                      · refine .cv (VOk.asg (d := (.v (.slice none 0 0))) rfl rfl) rfl rfl ?_
                        refine .cv (VOk.asg (d := (S ([] : Str))) rfl rfl) rfl rfl ?_
                        refine .cv (VOk.asg (d := (.v (.int .i64 12))) rfl rfl) rfl rfl ?_
                        exact .done (.rf rfl rfl)
                      refine Ok.le (σ' := ⟨[(2, (L 2 e_api_Field ([] : List T_api_Field))), (3, (S ([] : Str))), (4, (.v (.int .i64 12)))], []⟩) (.mk ⟨.nil _, .same _, .same _, trivial⟩ trivial) ?_
                      refine Ok.ret ?_
                      obtain rfl := Option.some.inj H
                      exact ⟨.inl rfl, ⟨_, (.cons (.tmp rfl) (.cons (.tmp rfl) (.cons (.tmp rfl) .nil))), rfl⟩, trivial⟩
                    · replace H := ifF H hb60
                      refine Ok.skip ?_
                      refine Ok.seq ?_
                      refine Ok.seq ?_
                      obtain ⟨c51, H⟩ := assertE H
                      obtain ⟨t52, h53, H⟩ := bindE H
                      refine Ok.region (σ' := ⟨[(0, (S a0)), (5, (.sref 5)), (6, (.v (.int .i64 (IntKind.i64.wrap (t22 + 2))))), (7, (S (x7_14 ++ (sl a0 x6_13 t22)))), (10, (.v (.int .i64 x10_35))), (102, (.v (.bool (!t52))))], [(5, (.rows true 67 2 (y5_36.map e_api_Field)))]⟩) ?_ ?_
                      · refine .cv (VOk.mv (d := (S (x7_14 ++ (sl a0 x6_13 t22)))) rfl rfl) rfl rfl ?_
                        refine .cv (VOk.mv (d := (.v (.int .i64 x10_35))) rfl rfl) rfl rfl ?_
                        refine .cv (VOk.arith (op := .add) (k := .i64) (a := x10_35) (b := 1) rfl rfl rfl rfl) rfl rfl ?_
                        refine .cv (VOk.sliceStr (s := (x7_14 ++ (sl a0 x6_13 t22))) (l := (IntKind.i64.wrap (x10_35 + 1))) (h := ((x7_14 ++ (sl a0 x6_13 t22)).length : Int)) rfl Tryd.underlying9 rfl rfl rfl c51) rfl rfl ?_
                        refine .cg (GOk.call rfl rfl cl52 rfl (watchbillref07_Plain.ok h53) rfl) rfl rfl ?_
                        refine .cv (VOk.not (b := t52) rfl rfl) rfl rfl ?_
                        exact .done (.rf rfl rfl)
                      refine Ok.test (b := (!t52)) rfl (fun hb59 => ?_) (fun hb59 => ?_)
                      · replace H := ifT H hb59
                        refine Ok.seq ?_
                        refine Ok.region (σ' := ⟨[(2, (.v (.slice none 0 0))), (3, (S ([] : Str))), (4, (.v (.int .i64 4)))], []⟩) ?_ ?_
                        · refine .cv (VOk.asg (d := (.v (.slice none 0 0))) rfl rfl) rfl rfl ?_
                          refine .cv (VOk.asg (d := (S ([] : Str))) rfl rfl) rfl rfl ?_
                          refine .cv (VOk.asg (d := (.v (.int .i64 4))) rfl rfl) rfl rfl ?_
                          exact .done (.rf rfl rfl)
                        refine Ok.le (σ' := ⟨[(2, (L 2 e_api_Field ([] : List T_api_Field))), (3, (S ([] : Str))), (4, (.v (.int .i64 4)))], []⟩) (.mk ⟨.nil _, .same _, .same _, trivial⟩ trivial) ?_
                        refine Ok.ret ?_
                        obtain rfl := Option.some.inj H
                        exact ⟨.inl rfl, ⟨_, (.cons (.tmp rfl) (.cons (.tmp rfl) (.cons (.tmp rfl) .nil))), rfl⟩, trivial⟩
                      · replace H := ifF H hb59
                        refine Ok.skip ?_
                        obtain ⟨c54, H⟩ := assertE H
                        obtain ⟨c55, H⟩ := assertE H
                        obtain ⟨t56, h57, H⟩ := bindE H
                        obtain ⟨c58, H⟩ := assertE H
                        refine Ok.le (σ' := ⟨[(0, (S a0)), (5, (.sref 5)), (6, (.v (.int .i64 (IntKind.i64.wrap (t22 + 2))))), (7, (S (x7_14 ++ (sl a0 x6_13 t22)))), (10, (.v (.int .i64 x10_35)))], [(5, (.rows true 67 2 (y5_36.map e_api_Field)))]⟩) (.rf rfl rfl) ?_
                        refine Ok.drawE2 (σ' := ⟨[(0, (S a0)), (5, (.sref 5)), (6, (.v (.int .i64 (IntKind.i64.wrap (t22 + 2)))))], [(5, (.rows true 67 2 ((y5_36 ++ ([(T_api_Field.mk (sl (x7_14 ++ (sl a0 x6_13 t22)) 0 x10_35) t56)] : List T_api_Field)).map e_api_Field)))]⟩) [⟨true, [(5, (.sref 5))], [(5, (.rows true 67 2 (y5_36.map e_api_Field)))], (.sref 5), [], false, []⟩, ⟨true, [(7, (S (x7_14 ++ (sl a0 x6_13 t22))))], [], (S (x7_14 ++ (sl a0 x6_13 t22))), [], false, []⟩, ⟨true, [(10, (.v (.int .i64 x10_35)))], [], (.v (.int .i64 x10_35)), [], false, []⟩, ⟨true, [(104, (S (x7_14 ++ (sl a0 x6_13 t22)))), (105, (.v (.int .i64 x10_35)))], [], (S (sl (x7_14 ++ (sl a0 x6_13 t22)) 0 x10_35)), [], false, []⟩, ⟨true, [(7, (S (x7_14 ++ (sl a0 x6_13 t22))))], [], (S (x7_14 ++ (sl a0 x6_13 t22))), [], false, []⟩, ⟨true, [(10, (.v (.int .i64 x10_35)))], [], (.v (.int .i64 x10_35)), [], false, []⟩, ⟨true, [(108, (.v (.int .i64 x10_35)))], [], (.v (.int .i64 (IntKind.i64.wrap (x10_35 + 1)))), [], false, []⟩, ⟨true, [(107, (S (x7_14 ++ (sl a0 x6_13 t22)))), (109, (.v (.int .i64 (IntKind.i64.wrap (x10_35 + 1)))))], [], (S (sl (x7_14 ++ (sl a0 x6_13 t22)) (IntKind.i64.wrap (x10_35 + 1)) ((x7_14 ++ (sl a0 x6_13 t22)).length : Int))), [], false, []⟩, ⟨true, [(110, (S (sl (x7_14 ++ (sl a0 x6_13 t22)) (IntKind.i64.wrap (x10_35 + 1)) ((x7_14 ++ (sl a0 x6_13 t22)).length : Int))))], [], (S t56), [], false, []⟩, ⟨true, [(106, (S (sl (x7_14 ++ (sl a0 x6_13 t22)) 0 x10_35))), (111, (S t56))], [], (.agg (e_api_Field (T_api_Field.mk (sl (x7_14 ++ (sl a0 x6_13 t22)) 0 x10_35) t56))), [], false, []⟩, ⟨true, [(112, (.agg (e_api_Field (T_api_Field.mk (sl (x7_14 ++ (sl a0 x6_13 t22)) 0 x10_35) t56))))], [], (L 2 e_api_Field ([(T_api_Field.mk (sl (x7_14 ++ (sl a0 x6_13 t22)) 0 x10_35) t56)] : List T_api_Field)), [], false, []⟩, ⟨true, [(103, (.sref 5)), (113, (L 2 e_api_Field ([(T_api_Field.mk (sl (x7_14 ++ (sl a0 x6_13 t22)) 0 x10_35) t56)] : List T_api_Field)))], [(5, (.rows true 67 2 (y5_36.map e_api_Field)))], (.sref 114), [(114, (.rows true 67 2 ((y5_36 ++ ([(T_api_Field.mk (sl (x7_14 ++ (sl a0 x6_13 t22)) 0 x10_35) t56)] : List T_api_Field)).map e_api_Field))), (5, .none)], true, []⟩, ⟨true, [(114, (.sref 114))], [(114, (.rows true 67 2 ((y5_36 ++ ([(T_api_Field.mk (sl (x7_14 ++ (sl a0 x6_13 t22)) 0 x10_35) t56)] : List T_api_Field)).map e_api_Field)))], (.sref 114), [], false, []⟩] [[], [], [], [1, 2], [], [], [5], [4, 6], [7], [3, 8], [9], [0, 10], [0, 11]] mixed (by kernel_rfl) ?_ ?_
                        · refine TxtE2.cons ⟨.same _, trivial⟩ ⟨rfl, trivial⟩ (It2.val rfl rfl (fun T hT => (VOk.g (VOk.mv (d := (.sref 5)) rfl rfl)))) ?_
                          refine TxtE2.cons ⟨.same _, trivial⟩ trivial (It2.val rfl rfl (fun T hT => (VOk.g (VOk.mv (d := (S (x7_14 ++ (sl a0 x6_13 t22)))) rfl rfl)))) ?_
                          refine TxtE2.cons ⟨.same _, trivial⟩ trivial (It2.val rfl rfl (fun T hT => (VOk.g (VOk.mv (d := (.v (.int .i64 x10_35))) rfl rfl)))) ?_
                          refine TxtE2.cons ⟨.same _, .same _, trivial⟩ trivial (It2.val rfl rfl (fun T hT => (VOk.g (VOk.sliceStr (s := (x7_14 ++ (sl a0 x6_13 t22))) (l := 0) (h := x10_35) rfl Tryd.underlying9 rfl rfl rfl c54)))) ?_
                          refine TxtE2.cons ⟨.same _, trivial⟩ trivial (It2.val rfl rfl (fun T hT => (VOk.g (VOk.mv (d := (S (x7_14 ++ (sl a0 x6_13 t22)))) rfl rfl)))) ?_
                          refine TxtE2.cons ⟨.same _, trivial⟩ trivial (It2.val rfl rfl (fun T hT => (VOk.g (VOk.mv (d := (.v (.int .i64 x10_35))) rfl rfl)))) ?_
                          refine TxtE2.cons ⟨.same _, trivial⟩ trivial (It2.val rfl rfl (fun T hT => (VOk.g (VOk.arith (op := .add) (k := .i64) (a := x10_35) (b := 1) rfl rfl rfl rfl)))) ?_
                          refine TxtE2.cons ⟨.same _, .same _, trivial⟩ trivial (It2.val rfl rfl (fun T hT => (VOk.g (VOk.sliceStr (s := (x7_14 ++ (sl a0 x6_13 t22))) (l := (IntKind.i64.wrap (x10_35 + 1))) (h := ((x7_14 ++ (sl a0 x6_13 t22)).length : Int)) rfl Tryd.underlying9 rfl rfl rfl c55)))) ?_
                          refine TxtE2.cons ⟨.same _, trivial⟩ trivial (It2.val rfl rfl (fun T hT => (GOk.call rfl rfl cl53 rfl (watchbillref07_trim.ok h57) rfl))) ?_
                          refine TxtE2.cons ⟨.same _, .same _, trivial⟩ trivial (It2.val rfl rfl (fun T hT => (VOk.g (VOk.to (d' := (.agg (e_api_Field (T_api_Field.mk (sl (x7_14 ++ (sl a0 x6_13 t22)) 0 x10_35) t56)))) (.build [none, none] [(0, 1), (1, 1)] rfl Tryd.underlying67 (fa67 Tryd.underlying67) zo67 rfl rfl) rfl)))) ?_
                          refine TxtE2.cons ⟨.same _, trivial⟩ trivial (It2.val rfl rfl (fun T hT => (GOk.to (d' := (L 2 e_api_Field ([(T_api_Field.mk (sl (x7_14 ++ (sl a0 x6_13 t22)) 0 x10_35) t56)] : List T_api_Field))) (GOk.lit rfl Tryd.underlying41 sz67 zs67 rfl rfl rfl rfl) rfl))) ?_
                          refine TxtE2.cons ⟨.same _, .same _, trivial⟩ ⟨rfl, trivial⟩ (It2.appendL 114 (e := e_api_Field) (xs := y5_36) (ys := ([(T_api_Field.mk (sl (x7_14 ++ (sl a0 x6_13 t22)) 0 x10_35) t56)] : List T_api_Field)) rfl rfl Tryd.underlying41 elt67 rfl rfl rfl rfl c58 rfl rfl) ?_
                          refine TxtE2.cons ⟨.same _, trivial⟩ ⟨rfl, trivial⟩ (It2.val rfl rfl (fun T hT => (VOk.g (VOk.asg (d := (.sref 114)) rfl rfl)))) ?_
                          exact .doneS (SLe.trans (Le.s (.rf rfl rfl)) (SLe.ren 114 5 rfl rfl))
                        exact ⟨m5, Nat.lt_succ_self m5, (y5_36 ++ ([(T_api_Field.mk (sl (x7_14 ++ (sl a0 x6_13 t22)) 0 x10_35) t56)] : List T_api_Field)), (IntKind.i64.wrap (t22 + 2)), rfl, H⟩
          · replace H := ifF H hb64
            refine Ok.le (σ' := ⟨[(0, (S a0)), (5, (.sref 5)), (6, (.v (.int .i64 (IntKind.i64.wrap (t22 + 2))))), (7, (S (x7_14 ++ (sl a0 x6_13 t22)))), (8, (.v (.bool (x8_15 || (decide ((IntKind.i64.wrap (t22 - x6_13)) > 998))))))], [(5, (.rows true 67 2 (y5_16.map e_api_Field)))]⟩) (.rf rfl rfl) ?_
            refine Ok.skip ?_
            exact ⟨m21, Nat.lt_succ_self m21, y5_16, (IntKind.i64.wrap (t22 + 2)), (x7_14 ++ (sl a0 x6_13 t22)), (x8_15 || (decide ((IntKind.i64.wrap (t22 - x6_13)) > 998))), rfl, H⟩

/-! watchbill/watchbillref08.Parse: function 14 -/
def watchbillref08_Parse.j2 (k : Nat) (c0 : List T_api_Part → Int → Option ((List T_api_Part) × Int)) (a0 : Str) (a1 : Str) (y7_14 : List T_api_Part) (x6_13 : Int) (t26 : Int) (x10_28 : Int) : Option ((List T_api_Part) × Int) := (if (0 : Int) ≤ (IntKind.i64.wrap (x6_13 + 2)) ∧ (IntKind.i64.wrap (x6_13 + 2)) ≤ x10_28 ∧ x10_28 ≤ (a0.length : Int) then ((watchbillref07_Parse k (sl a0 (IntKind.i64.wrap (x6_13 + 2)) x10_28)).bind fun (t30 : (List T_api_Field) × Str × Int) => (if (t30.2.2 != 0) = true then some (([] : List T_api_Part), t30.2.2) else (if (y7_14.length + ([(T_api_Part.mk t30.1 t30.2.1)] : List T_api_Part).length) * 40 ≤ 140737488355328 then c0 (y7_14 ++ ([(T_api_Part.mk t30.1 t30.2.1)] : List T_api_Part)) t26 else none))) else none)
def watchbillref08_Parse.l1 (k : Nat) (c0 : List T_api_Part → Int → Option ((List T_api_Part) × Int)) (a0 : Str) (a1 : Str) : Nat → List T_api_Part → Int → Option ((List T_api_Part) × Int)
  | 0, _, _ => none
  | m17 + 1, y7_14, x6_13 => (if (((decide (x6_13 < (a0.length : Int))) == true) = true → (0 : Int) ≤ x6_13 ∧ x6_13 < (a0.length : Int)) then (if ((((decide (x6_13 < (a0.length : Int))) == true) && (((bt a0 x6_13) == 32) == false)) = true → (0 : Int) ≤ x6_13 ∧ x6_13 < (a0.length : Int)) then (if ((decide (x6_13 < (a0.length : Int))) && (((bt a0 x6_13) == 32) || ((bt a0 x6_13) == 9))) = true then watchbillref08_Parse.l1 k c0 a0 a1 m17 y7_14 (IntKind.i64.wrap (x6_13 + 1)) else ((watchbillref03_Begins a0 x6_13 ([13, 10] : Str)).bind fun (t24 : Bool) => (if (!t24) = true then some (([] : List T_api_Part), 4) else ((watchbillref08_next k a0 a1 (IntKind.i64.wrap (x6_13 + 2))).bind fun (t26 : Int) => (if (decide (t26 < 0)) = true then some (([] : List T_api_Part), 2) else (if ((y7_14.length : Int) == 40) = true then some (([] : List T_api_Part), 3) else (if (decide ((IntKind.i64.wrap (t26 - 2)) < (IntKind.i64.wrap (x6_13 + 2)))) = true then watchbillref08_Parse.j2 k (c0) a0 a1 y7_14 x6_13 t26 (IntKind.i64.wrap (x6_13 + 2)) else watchbillref08_Parse.j2 k (c0) a0 a1 y7_14 x6_13 t26 (IntKind.i64.wrap (t26 - 2))))))))) else none) else none)
def watchbillref08_Parse.l0 (k : Nat) (a0 : Str) (a1 : Str) : Nat → List T_api_Part → Int → Option ((List T_api_Part) × Int)
  | 0, _, _ => none
  | m9 + 1, y7_6, x6_5 => ((watchbillref03_Begins a0 (IntKind.i64.wrap ((IntKind.i64.wrap (x6_5 + 2)) + (a1.length : Int))) ([45, 45] : Str)).bind fun (t10 : Bool) => (if t10 = true then (if ((y7_6.length : Int) == 0) = true then some (([] : List T_api_Part), 2) else some (y7_6, 0)) else watchbillref08_Parse.l1 k (watchbillref08_Parse.l0 k a0 a1 m9) a0 a1 k y7_6 (IntKind.i64.wrap ((IntKind.i64.wrap (x6_5 + 2)) + (a1.length : Int)))))
def watchbillref08_Parse (k : Nat) (a0 : Str) (a1 : Str) : Option ((List T_api_Part) × Int) := ((watchbillref08_May k a1).bind fun (t1 : Bool) => (if (!t1) = true then some (([] : List T_api_Part), 30) else ((watchbillref08_next k a0 a1 0).bind fun (t3 : Int) => (if (decide (t3 < 0)) = true then some (([] : List T_api_Part), 30) else watchbillref08_Parse.l0 k a0 a1 k ([] : List T_api_Part) t3))))
theorem watchbillref08_Parse.ok {k : Nat} {a0 : Str} {a1 : Str} {r : (List T_api_Part) × Int} (H : watchbillref08_Parse k a0 a1 = some r) : Vx.Fn Tryd.prog 14 [(S a0), (S a1)] [] (.tup [(L 2 e_api_Part r.1), (.v (.int .i64 r.2))]) [] := by
  unfold watchbillref08_Parse at H
  refine Vx.Fn.of_okR Tryd.func14 rfl (Nat.le_of_ble_eq_true rfl) ?_
  refine Ok.seq ?_
  refine Ok.region (σ' := ⟨[(0, (S a0)), (1, (S a1))], []⟩) ?_ ?_
  · refine .cv (VOk.asg (d := (.v (.slice none 0 0))) rfl rfl) rfl rfl ?_
    refine .cv (VOk.asg (d := (.v (.int .i64 0))) rfl rfl) rfl rfl ?_
    exact .done (.rf rfl rfl)
  refine Ok.seq ?_
  refine Ok.seq ?_
  obtain ⟨t1, h2, H⟩ := bindE H
  refine Ok.region (σ' := ⟨[(0, (S a0)), (1, (S a1)), (16, (.v (.bool (!t1))))], []⟩) ?_ ?_
  · refine .cv (VOk.mv (d := (S a1)) rfl rfl) rfl rfl ?_
    refine .cg (GOk.call rfl rfl cl16 rfl (watchbillref08_May.ok h2) rfl) rfl rfl ?_
    refine .cv (VOk.not (b := t1) rfl rfl) rfl rfl ?_
    exact .done (.rf rfl rfl)
  refine Ok.test (b := (!t1)) rfl (fun hb41 => ?_) (fun hb41 => ?_)
  · replace H := ifT H hb41
    refine Ok.seq ?_
    refine Ok.region (σ' := ⟨[(4, (.v (.slice none 0 0))), (5, (.v (.int .i64 30)))], []⟩) ?_ ?_
    · refine .cv (VOk.asg (d := (.v (.slice none 0 0))) rfl rfl) rfl rfl ?_
      refine .cv (VOk.asg (d := (.v (.int .i64 30))) rfl rfl) rfl rfl ?_
      exact .done (.rf rfl rfl)
    refine Ok.le (σ' := ⟨[(4, (L 2 e_api_Part ([] : List T_api_Part))), (5, (.v (.int .i64 30)))], []⟩) (.mk ⟨.nil _, .same _, trivial⟩ trivial) ?_
    refine Ok.ret ?_
    obtain rfl := Option.some.inj H
    exact ⟨.inl rfl, ⟨_, (.cons (.tmp rfl) (.cons (.tmp rfl) .nil)), rfl⟩, trivial⟩
  · replace H := ifF H hb41
    refine Ok.skip ?_
    refine Ok.seq ?_
    obtain ⟨t3, h4, H⟩ := bindE H
    refine Ok.region (σ' := ⟨[(0, (S a0)), (1, (S a1)), (6, (.v (.int .i64 t3)))], []⟩) ?_ ?_
    · refine .cv (VOk.mv (d := (S a0)) rfl rfl) rfl rfl ?_
      refine .cv (VOk.mv (d := (S a1)) rfl rfl) rfl rfl ?_
      refine .cg (GOk.call rfl rfl cl31 rfl (watchbillref08_next.ok h4) rfl) rfl rfl ?_
      refine .cv (VOk.asg (d := (.v (.int .i64 t3))) rfl rfl) rfl rfl ?_
      exact .done (.rf rfl rfl)
    refine Ok.seq ?_
    refine Ok.seq ?_
    refine Ok.region (σ' := ⟨[(0, (S a0)), (1, (S a1)), (6, (.v (.int .i64 t3))), (21, (.v (.bool (decide (t3 < 0)))))], []⟩) ?_ ?_
    · refine .cv (VOk.mv (d := (.v (.int .i64 t3))) rfl rfl) rfl rfl ?_
      refine .cv (VOk.arith (op := .lss) (k := .i64) (a := t3) (b := 0) rfl rfl rfl rfl) rfl rfl ?_
      exact .done (.rf rfl rfl)
    refine Ok.test (b := (decide (t3 < 0))) rfl (fun hb40 => ?_) (fun hb40 => ?_)
    · replace H := ifT H hb40
      refine Ok.seq ?_
      refine Ok.region (σ' := ⟨[(4, (.v (.slice none 0 0))), (5, (.v (.int .i64 30)))], []⟩) ?_ ?_
      · refine .cv (VOk.asg (d := (.v (.slice none 0 0))) rfl rfl) rfl rfl ?_
        refine .cv (VOk.asg (d := (.v (.int .i64 30))) rfl rfl) rfl rfl ?_
        exact .done (.rf rfl rfl)
      refine Ok.le (σ' := ⟨[(4, (L 2 e_api_Part ([] : List T_api_Part))), (5, (.v (.int .i64 30)))], []⟩) (.mk ⟨.nil _, .same _, trivial⟩ trivial) ?_
      refine Ok.ret ?_
      obtain rfl := Option.some.inj H
      exact ⟨.inl rfl, ⟨_, (.cons (.tmp rfl) (.cons (.tmp rfl) .nil)), rfl⟩, trivial⟩
    · replace H := ifF H hb40
      refine Ok.skip ?_
      refine Ok.seq ?_
      refine Ok.region (σ' := ⟨[(0, (S a0)), (1, (S a1)), (6, (.v (.int .i64 t3))), (7, (.sref 7))], [(7, (.rows true 43 2 (([] : List T_api_Part).map e_api_Part)))]⟩) ?_ ?_
      · refine OpsOk.cons rfl (.nilT 7 43 2 (.inl rfl) rfl rfl) ?_
        exact .done (.rf rfl rfl)
      refine Ok.block ?_
      refine Ok.le (σ' := ⟨[(0, (S a0)), (1, (S a1)), (6, (.v (.int .i64 t3))), (7, (.sref 7))], [(7, (.rows true 43 2 (([] : List T_api_Part).map e_api_Part)))]⟩) (.rf rfl rfl) ?_
      refine Ok.loop (fun m9 σ => ∃ (y7_6 : List T_api_Part) (x6_5 : Int), σ = ⟨[(0, (S a0)), (1, (S a1)), (6, (.v (.int .i64 x6_5))), (7, (.sref 7))], [(7, (.rows true 43 2 (y7_6.map e_api_Part)))]⟩ ∧ watchbillref08_Parse.l0 k a0 a1 m9 y7_6 x6_5 = some r) k ⟨([] : List T_api_Part), t3, rfl, H⟩ ?_
      rintro m9 σ ⟨y7_6, x6_5, rfl, H⟩
      cases m9 with
      | zero => exact absurd H (by simp [watchbillref08_Parse.l0])
      | succ m9 =>
        unfold watchbillref08_Parse.l0 at H
        refine Ok.block ?_
        refine Ok.seq ?_
        refine Ok.region (σ' := ⟨[(0, (S a0)), (1, (S a1)), (6, (.v (.int .i64 (IntKind.i64.wrap ((IntKind.i64.wrap (x6_5 + 2)) + (a1.length : Int)))))), (7, (.sref 7))], [(7, (.rows true 43 2 (y7_6.map e_api_Part)))]⟩) ?_ ?_
        · refine .cv (VOk.mv (d := (.v (.int .i64 x6_5))) rfl rfl) rfl rfl ?_
          refine .cv (VOk.arith (op := .add) (k := .i64) (a := x6_5) (b := 2) rfl rfl rfl rfl) rfl rfl ?_
          refine .cv (VOk.mv (d := (S a1)) rfl rfl) rfl rfl ?_
          refine .cv (VOk.lenStr (s := a1) rfl Tryd.underlying9 rfl) rfl rfl ?_
          refine .cv (VOk.arith (op := .add) (k := .i64) (a := (IntKind.i64.wrap (x6_5 + 2))) (b := (a1.length : Int)) rfl rfl rfl rfl) rfl rfl ?_
          refine .cv (VOk.asg (d := (.v (.int .i64 (IntKind.i64.wrap ((IntKind.i64.wrap (x6_5 + 2)) + (a1.length : Int)))))) rfl rfl) rfl rfl ?_
          exact .done (.rf rfl rfl)
        refine Ok.seq ?_
        refine Ok.seq ?_
        obtain ⟨t10, h11, H⟩ := bindE H
        refine Ok.region (σ' := ⟨[(0, (S a0)), (1, (S a1)), (6, (.v (.int .i64 (IntKind.i64.wrap ((IntKind.i64.wrap (x6_5 + 2)) + (a1.length : Int)))))), (7, (.sref 7)), (29, (.v (.bool t10)))], [(7, (.rows true 43 2 (y7_6.map e_api_Part)))]⟩) ?_ ?_
        · refine .cv (VOk.mv (d := (S a0)) rfl rfl) rfl rfl ?_
          refine .cv (VOk.mv (d := (.v (.int .i64 (IntKind.i64.wrap ((IntKind.i64.wrap (x6_5 + 2)) + (a1.length : Int)))))) rfl rfl) rfl rfl ?_
          refine .cg (GOk.call rfl rfl cl32 rfl (watchbillref03_Begins.ok h11) rfl) rfl rfl ?_
          exact .done (.rf rfl rfl)
        refine Ok.test (b := t10) rfl (fun hb39 => ?_) (fun hb39 => ?_)
        · replace H := ifT H hb39
          refine Ok.seq ?_
          refine Ok.seq ?_
          refine Ok.region (σ' := ⟨[(7, (.sref 7)), (32, (.v (.bool ((y7_6.length : Int) == 0))))], [(7, (.rows true 43 2 (y7_6.map e_api_Part)))]⟩) ?_ ?_
          · refine .cv (VOk.mv (d := (.sref 7)) rfl rfl) rfl rfl ?_
            refine .cv (VOk.lenTL (e := e_api_Part) (xs := y7_6) rfl Tryd.underlying22 rfl rfl) rfl rfl ?_
            refine .cv (VOk.arith (op := .eql) (k := .i64) (a := (y7_6.length : Int)) (b := 0) rfl rfl rfl rfl) rfl rfl ?_
            exact .done (.rf rfl rfl)
          refine Ok.test (b := ((y7_6.length : Int) == 0)) rfl (fun hb12 => ?_) (fun hb12 => ?_)
          · replace H := ifT H hb12
            refine Ok.seq ?_
            refine Ok.region (σ' := ⟨[(4, (.v (.slice none 0 0))), (5, (.v (.int .i64 2)))], []⟩) ?_ ?_
            · refine .cv (VOk.asg (d := (.v (.slice none 0 0))) rfl rfl) rfl rfl ?_
              refine .cv (VOk.asg (d := (.v (.int .i64 2))) rfl rfl) rfl rfl ?_
              exact .done (.rf rfl rfl)
            refine Ok.le (σ' := ⟨[(4, (L 2 e_api_Part ([] : List T_api_Part))), (5, (.v (.int .i64 2)))], []⟩) (.mk ⟨.nil _, .same _, trivial⟩ trivial) ?_
            refine Ok.ret ?_
            obtain rfl := Option.some.inj H
            exact ⟨.inl rfl, ⟨_, (.cons (.tmp rfl) (.cons (.tmp rfl) .nil)), rfl⟩, trivial⟩
          · replace H := ifF H hb12
            refine Ok.skip ?_
            refine Ok.seq ?_
            refine Ok.region (σ' := ⟨[(4, (.sref 7)), (5, (.v (.int .i64 0)))], [(7, (.rows true 43 2 (y7_6.map e_api_Part)))]⟩) ?_ ?_
            · refine .cv (VOk.mv (d := (.sref 7)) rfl rfl) rfl rfl ?_
              refine .cv (VOk.asg (d := (.sref 7)) rfl rfl) rfl rfl ?_
              refine .cv (VOk.asg (d := (.v (.int .i64 0))) rfl rfl) rfl rfl ?_
              exact .done (.rf rfl rfl)
            refine Ok.frzL 7 (e := e_api_Part) (xs := y7_6) rfl ?_
            refine Ok.ret ?_
            obtain rfl := Option.some.inj H
            exact ⟨.inl rfl, ⟨_, (.cons (.tmp rfl) (.cons (.tmp rfl) .nil)), rfl⟩, trivial⟩
        · replace H := ifF H hb39
          refine Ok.skip ?_
          refine Ok.seq ?_
          refine Ok.block ?_
          refine Ok.le (σ' := ⟨[(0, (S a0)), (1, (S a1)), (6, (.v (.int .i64 (IntKind.i64.wrap ((IntKind.i64.wrap (x6_5 + 2)) + (a1.length : Int)))))), (7, (.sref 7))], [(7, (.rows true 43 2 (y7_6.map e_api_Part)))]⟩) (.rf rfl rfl) ?_
          refine Ok.loop (fun m17 σ => ∃ (y7_14 : List T_api_Part) (x6_13 : Int), σ = ⟨[(0, (S a0)), (1, (S a1)), (6, (.v (.int .i64 x6_13))), (7, (.sref 7))], [(7, (.rows true 43 2 (y7_14.map e_api_Part)))]⟩ ∧ watchbillref08_Parse.l1 k (watchbillref08_Parse.l0 k a0 a1 m9) a0 a1 m17 y7_14 x6_13 = some r) k ⟨y7_6, (IntKind.i64.wrap ((IntKind.i64.wrap (x6_5 + 2)) + (a1.length : Int))), rfl, H⟩ ?_
          rintro m17 σ ⟨y7_14, x6_13, rfl, H⟩
          cases m17 with
          | zero => exact absurd H (by simp [watchbillref08_Parse.l1])
          | succ m17 =>
            unfold watchbillref08_Parse.l1 at H
            refine Ok.seq ?_
            refine Ok.seq ?_
            obtain ⟨c19, H⟩ := assertE H
            obtain ⟨c21, H⟩ := assertE H
            refine Ok.region (σ' := ⟨[(0, (S a0)), (1, (S a1)), (6, (.v (.int .i64 x6_13))), (7, (.sref 7)), (49, (.v (.bool ((decide (x6_13 < (a0.length : Int))) && (((bt a0 x6_13) == 32) || ((bt a0 x6_13) == 9))))))], [(7, (.rows true 43 2 (y7_14.map e_api_Part)))]⟩) ?_ ?_
            · refine .cv (VOk.mv (d := (.v (.int .i64 x6_13))) rfl rfl) rfl rfl ?_
              refine .cv (VOk.mv (d := (S a0)) rfl rfl) rfl rfl ?_
              refine .cv (VOk.lenStr (s := a0) rfl Tryd.underlying9 rfl) rfl rfl ?_
              refine .cv (VOk.arith (op := .lss) (k := .i64) (a := x6_13) (b := (a0.length : Int)) rfl rfl rfl rfl) rfl rfl ?_
              refine .cv (VOk.mv (d := (.v (.bool (decide (x6_13 < (a0.length : Int)))))) rfl rfl) rfl rfl ?_
              refine OpsOk.consI rfl rfl rfl (.one rfl) rfl (fun hw18 => (VOk.g (VOk.mv (d := (S a0)) rfl rfl))) ?_
              refine OpsOk.consI rfl rfl rfl (.one rfl) rfl (fun hw18 => (VOk.g (VOk.mv (d := (.v (.int .i64 x6_13))) rfl rfl))) ?_
              refine OpsOk.consI rfl rfl rfl (.one rfl) rfl (fun hw18 => (GOk.fr (fr' := [(39, (S a0)), (40, (.v (.int .i64 x6_13)))]) ⟨DLe.of_eq (cT hw18).symm, DLe.of_eq (cT hw18).symm, trivial⟩ (VOk.g (VOk.indexStr (s := a0) (i := x6_13) rfl Tryd.underlying9 rfl rfl (c19 hw18))))) ?_
              refine OpsOk.consI rfl rfl rfl (.one rfl) rfl (fun hw18 => (GOk.fr (fr' := [(41, (.v (.int .u8 (bt a0 x6_13))))]) ⟨DLe.of_eq (cT hw18).symm, trivial⟩ (VOk.g (VOk.arith (op := .eql) (k := .u8) (a := (bt a0 x6_13)) (b := 32) rfl rfl rfl rfl)))) ?_
              refine OpsOk.consI rfl rfl rfl (.one rfl) rfl (fun hw18 => (GOk.fr (fr' := [(42, (.v (.bool ((bt a0 x6_13) == 32))))]) ⟨DLe.of_eq (cT hw18).symm, trivial⟩ (VOk.g (VOk.mv (d := (.v (.bool ((bt a0 x6_13) == 32)))) rfl rfl)))) ?_
              refine OpsOk.consI rfl rfl rfl (.two rfl) rfl (fun hw20 => (VOk.g (VOk.mv (d := (S a0)) rfl rfl))) ?_
              refine OpsOk.consI rfl rfl rfl (.two rfl) rfl (fun hw20 => (VOk.g (VOk.mv (d := (.v (.int .i64 x6_13))) rfl rfl))) ?_
              refine OpsOk.consI rfl rfl rfl (.two rfl) rfl (fun hw20 => (GOk.fr (fr' := [(44, (S a0)), (45, (.v (.int .i64 x6_13)))]) ⟨DLe.of_eq (cT hw20).symm, DLe.of_eq (cT hw20).symm, trivial⟩ (VOk.g (VOk.indexStr (s := a0) (i := x6_13) rfl Tryd.underlying9 rfl rfl (c21 hw20))))) ?_
              refine OpsOk.consI rfl rfl rfl (.two rfl) rfl (fun hw20 => (GOk.fr (fr' := [(46, (.v (.int .u8 (bt a0 x6_13))))]) ⟨DLe.of_eq (cT hw20).symm, trivial⟩ (VOk.g (VOk.arith (op := .eql) (k := .u8) (a := (bt a0 x6_13)) (b := 9) rfl rfl rfl rfl)))) ?_
              refine OpsOk.consI rfl rfl rfl (.one rfl) rfl (fun hw18 => (VOk.g (VOk.to (VOk.pickI (b := ((bt a0 x6_13) == 32)) (p := true) (q := ((bt a0 x6_13) == 9)) rfl (cT hw18) (fun hp22 => rfl) (fun hp22 => (cT (and_i hw18 (f_beq hp22))))) (pickOr ((bt a0 x6_13) == 32) ((bt a0 x6_13) == 9))))) ?_
              refine .cv (VOk.to (VOk.pickI (b := (decide (x6_13 < (a0.length : Int)))) (p := (((bt a0 x6_13) == 32) || ((bt a0 x6_13) == 9))) (q := false) rfl rfl (fun hp23 => (cT (t_beq hp23))) (fun hp23 => rfl)) (pickAnd (decide (x6_13 < (a0.length : Int))) (((bt a0 x6_13) == 32) || ((bt a0 x6_13) == 9)))) rfl rfl ?_
              exact .done (.rf rfl rfl)
            refine Ok.test (b := ((decide (x6_13 < (a0.length : Int))) && (((bt a0 x6_13) == 32) || ((bt a0 x6_13) == 9)))) rfl (fun hb38 => ?_) (fun hb38 => ?_)
            · replace H := ifT H hb38
              refine Ok.skip ?_
              refine Ok.block ?_
              refine Ok.region (σ' := ⟨[(0, (S a0)), (1, (S a1)), (6, (.v (.int .i64 (IntKind.i64.wrap (x6_13 + 1))))), (7, (.sref 7))], [(7, (.rows true 43 2 (y7_14.map e_api_Part)))]⟩) ?_ ?_
              · refine .cv (VOk.mv (d := (.v (.int .i64 x6_13))) rfl rfl) rfl rfl ?_
                refine .cv (VOk.arith (op := .add) (k := .i64) (a := x6_13) (b := 1) rfl rfl rfl rfl) rfl rfl ?_
                refine .cv (VOk.asg (d := (.v (.int .i64 (IntKind.i64.wrap (x6_13 + 1))))) rfl rfl) rfl rfl ?_
                exact .done (.rf rfl rfl)
              exact ⟨m17, Nat.lt_succ_self m17, y7_14, (IntKind.i64.wrap (x6_13 + 1)), rfl, H⟩
            · replace H := ifF H hb38
              refine Ok.exit ?_
              refine Ok.seq ?_
              refine Ok.seq ?_
              obtain ⟨t24, h25, H⟩ := bindE H
              refine Ok.region (σ' := ⟨[(0, (S a0)), (1, (S a1)), (6, (.v (.int .i64 x6_13))), (7, (.sref 7)), (55, (.v (.bool (!t24))))], [(7, (.rows true 43 2 (y7_14.map e_api_Part)))]⟩) ?_ ?_
              · refine .cv (VOk.mv (d := (S a0)) rfl rfl) rfl rfl ?_
                refine .cv (VOk.mv (d := (.v (.int .i64 x6_13))) rfl rfl) rfl rfl ?_
                refine .cg (GOk.call rfl rfl cl32 rfl (watchbillref03_Begins.ok h25) rfl) rfl rfl ?_
                refine .cv (VOk.not (b := t24) rfl rfl) rfl rfl ?_
                exact .done (.rf rfl rfl)
              refine Ok.test (b := (!t24)) rfl (fun hb37 => ?_) (fun hb37 => ?_)
              · replace H := ifT H hb37
                refine Ok.seq ?_
                refine Ok.region (σ' := ⟨[(4, (.v (.slice none 0 0))), (5, (.v (.int .i64 4)))], []⟩) ?_ ?_
                · refine .cv (VOk.asg (d := (.v (.slice none 0 0))) rfl rfl) rfl rfl ?_
                  refine .cv (VOk.asg (d := (.v (.int .i64 4))) rfl rfl) rfl rfl ?_
                  exact .done (.rf rfl rfl)
                refine Ok.le (σ' := ⟨[(4, (L 2 e_api_Part ([] : List T_api_Part))), (5, (.v (.int .i64 4)))], []⟩) (.mk ⟨.nil _, .same _, trivial⟩ trivial) ?_
                refine Ok.ret ?_
                obtain rfl := Option.some.inj H
                exact ⟨.inl rfl, ⟨_, (.cons (.tmp rfl) (.cons (.tmp rfl) .nil)), rfl⟩, trivial⟩
              · replace H := ifF H hb37
                refine Ok.skip ?_
                refine Ok.seq ?_
                refine Ok.region (σ' := ⟨[(0, (S a0)), (1, (S a1)), (7, (.sref 7)), (8, (.v (.int .i64 (IntKind.i64.wrap (x6_13 + 2)))))], [(7, (.rows true 43 2 (y7_14.map e_api_Part)))]⟩) ?_ ?_
                · refine .cv (VOk.mv (d := (.v (.int .i64 x6_13))) rfl rfl) rfl rfl ?_
                  refine .cv (VOk.arith (op := .add) (k := .i64) (a := x6_13) (b := 2) rfl rfl rfl rfl) rfl rfl ?_
                  refine .cv (VOk.asg (d := (.v (.int .i64 (IntKind.i64.wrap (x6_13 + 2))))) rfl rfl) rfl rfl ?_
                  exact .done (.rf rfl rfl)
                refine Ok.seq ?_
                obtain ⟨t26, h27, H⟩ := bindE H
                refine Ok.region (σ' := ⟨[(0, (S a0)), (1, (S a1)), (7, (.sref 7)), (8, (.v (.int .i64 (IntKind.i64.wrap (x6_13 + 2))))), (9, (.v (.int .i64 t26)))], [(7, (.rows true 43 2 (y7_14.map e_api_Part)))]⟩) ?_ ?_
                · refine .cv (VOk.mv (d := (S a0)) rfl rfl) rfl rfl ?_
                  refine .cv (VOk.mv (d := (S a1)) rfl rfl) rfl rfl ?_
                  refine .cv (VOk.mv (d := (.v (.int .i64 (IntKind.i64.wrap (x6_13 + 2))))) rfl rfl) rfl rfl ?_
                  refine .cg (GOk.call rfl rfl cl31 rfl (watchbillref08_next.ok h27) rfl) rfl rfl ?_
                  refine .cv (VOk.asg (d := (.v (.int .i64 t26))) rfl rfl) rfl rfl ?_
                  exact .done (.rf rfl rfl)
                refine Ok.seq ?_
                refine Ok.seq ?_
                refine Ok.region (σ' := ⟨[(0, (S a0)), (1, (S a1)), (7, (.sref 7)), (8, (.v (.int .i64 (IntKind.i64.wrap (x6_13 + 2))))), (9, (.v (.int .i64 t26))), (63, (.v (.bool (decide (t26 < 0)))))], [(7, (.rows true 43 2 (y7_14.map e_api_Part)))]⟩) ?_ ?_
                · refine .cv (VOk.mv (d := (.v (.int .i64 t26))) rfl rfl) rfl rfl ?_
                  refine .cv (VOk.arith (op := .lss) (k := .i64) (a := t26) (b := 0) rfl rfl rfl rfl) rfl rfl ?_
                  exact .done (.rf rfl rfl)
                refine Ok.test (b := (decide (t26 < 0))) rfl (fun hb36 => ?_) (fun hb36 => ?_)
                · replace H := ifT H hb36
                  refine Ok.seq ?_
                  refine Ok.region (σ' := ⟨[(4, (.v (.slice none 0 0))), (5, (.v (.int .i64 2)))], []⟩) ?_ ?_
                  · refine .cv (VOk.asg (d := (.v (.slice none 0 0))) rfl rfl) rfl rfl ?_
                    refine .cv (VOk.asg (d := (.v (.int .i64 2))) rfl rfl) rfl rfl ?_
                    exact .done (.rf rfl rfl)
                  refine Ok.le (σ' := ⟨[(4, (L 2 e_api_Part ([] : List T_api_Part))), (5, (.v (.int .i64 2)))], []⟩) (.mk ⟨.nil _, .same _, trivial⟩ trivial) ?_
                  refine Ok.ret ?_
                  obtain rfl := Option.some.inj H
                  exact ⟨.inl rfl, ⟨_, (.cons (.tmp rfl) (.cons (.tmp rfl) .nil)), rfl⟩, trivial⟩
                · replace H := ifF H hb36
                  refine Ok.skip ?_
                  refine Ok.seq ?_
                  refine Ok.seq ?_
                  refine Ok.region (σ' := ⟨[(0, (S a0)), (1, (S a1)), (7, (.sref 7)), (8, (.v (.int .i64 (IntKind.i64.wrap (x6_13 + 2))))), (9, (.v (.int .i64 t26))), (66, (.v (.bool ((y7_14.length : Int) == 40))))], [(7, (.rows true 43 2 (y7_14.map e_api_Part)))]⟩) ?_ ?_
                  · refine .cv (VOk.mv (d := (.sref 7)) rfl rfl) rfl rfl ?_
                    refine .cv (VOk.lenTL (e := e_api_Part) (xs := y7_14) rfl Tryd.underlying22 rfl rfl) rfl rfl ?_
                    refine .cv (VOk.arith (op := .eql) (k := .i64) (a := (y7_14.length : Int)) (b := 40) rfl rfl rfl rfl) rfl rfl ?_
                    exact .done (.rf rfl rfl)
                  refine Ok.test (b := ((y7_14.length : Int) == 40)) rfl (fun hb35 => ?_) (fun hb35 => ?_)
                  · replace H := ifT H hb35
                    refine Ok.seq ?_
                    refine Ok.region (σ' := ⟨[(4, (.v (.slice none 0 0))), (5, (.v (.int .i64 3)))], []⟩) ?_ ?_
                    · refine .cv (VOk.asg (d := (.v (.slice none 0 0))) rfl rfl) rfl rfl ?_
                      refine .cv (VOk.asg (d := (.v (.int .i64 3))) rfl rfl) rfl rfl ?_
                      exact .done (.rf rfl rfl)
                    refine Ok.le (σ' := ⟨[(4, (L 2 e_api_Part ([] : List T_api_Part))), (5, (.v (.int .i64 3)))], []⟩) (.mk ⟨.nil _, .same _, trivial⟩ trivial) ?_
                    refine Ok.ret ?_
                    obtain rfl := Option.some.inj H
                    exact ⟨.inl rfl, ⟨_, (.cons (.tmp rfl) (.cons (.tmp rfl) .nil)), rfl⟩, trivial⟩
                  · replace H := ifF H hb35
                    refine Ok.skip ?_
                    refine Ok.seq ?_
                    refine Ok.region (σ' := ⟨[(0, (S a0)), (1, (S a1)), (7, (.sref 7)), (8, (.v (.int .i64 (IntKind.i64.wrap (x6_13 + 2))))), (9, (.v (.int .i64 t26))), (10, (.v (.int .i64 (IntKind.i64.wrap (t26 - 2)))))], [(7, (.rows true 43 2 (y7_14.map e_api_Part)))]⟩) ?_ ?_
                    · refine .cv (VOk.mv (d := (.v (.int .i64 t26))) rfl rfl) rfl rfl ?_
                      refine .cv (VOk.arith (op := .sub) (k := .i64) (a := t26) (b := 2) rfl rfl rfl rfl) rfl rfl ?_
                      refine .cv (VOk.asg (d := (.v (.int .i64 (IntKind.i64.wrap (t26 - 2))))) rfl rfl) rfl rfl ?_
                      exact .done (.rf rfl rfl)
                    refine Ok.meet (fun σ => ∃ (x10_28 : Int), σ = ⟨[(0, (S a0)), (1, (S a1)), (7, (.sref 7)), (8, (.v (.int .i64 (IntKind.i64.wrap (x6_13 + 2))))), (9, (.v (.int .i64 t26))), (10, (.v (.int .i64 x10_28)))], [(7, (.rows true 43 2 (y7_14.map e_api_Part)))]⟩ ∧ watchbillref08_Parse.j2 k (watchbillref08_Parse.l0 k a0 a1 m9) a0 a1 y7_14 x6_13 t26 x10_28 = some r) ?_ ?_
                    · refine Ok.seq ?_
                      refine Ok.region (σ' := ⟨[(0, (S a0)), (1, (S a1)), (7, (.sref 7)), (8, (.v (.int .i64 (IntKind.i64.wrap (x6_13 + 2))))), (9, (.v (.int .i64 t26))), (10, (.v (.int .i64 (IntKind.i64.wrap (t26 - 2))))), (71, (.v (.bool (decide ((IntKind.i64.wrap (t26 - 2)) < (IntKind.i64.wrap (x6_13 + 2)))))))], [(7, (.rows true 43 2 (y7_14.map e_api_Part)))]⟩) ?_ ?_
                      · refine .cv (VOk.mv (d := (.v (.int .i64 (IntKind.i64.wrap (t26 - 2))))) rfl rfl) rfl rfl ?_
                        refine .cv (VOk.mv (d := (.v (.int .i64 (IntKind.i64.wrap (x6_13 + 2))))) rfl rfl) rfl rfl ?_
                        refine .cv (VOk.arith (op := .lss) (k := .i64) (a := (IntKind.i64.wrap (t26 - 2))) (b := (IntKind.i64.wrap (x6_13 + 2))) rfl rfl rfl rfl) rfl rfl ?_
                        exact .done (.rf rfl rfl)
                      refine Ok.test (b := (decide ((IntKind.i64.wrap (t26 - 2)) < (IntKind.i64.wrap (x6_13 + 2))))) rfl (fun hb34 => ?_) (fun hb34 => ?_)
                      · replace H := ifT H hb34
                        refine Ok.region (σ' := ⟨[(0, (S a0)), (1, (S a1)), (7, (.sref 7)), (8, (.v (.int .i64 (IntKind.i64.wrap (x6_13 + 2))))), (9, (.v (.int .i64 t26))), (10, (.v (.int .i64 (IntKind.i64.wrap (x6_13 + 2)))))], [(7, (.rows true 43 2 (y7_14.map e_api_Part)))]⟩) ?_ ?_
                        · refine .cv (VOk.mv (d := (.v (.int .i64 (IntKind.i64.wrap (x6_13 + 2))))) rfl rfl) rfl rfl ?_
                          refine .cv (VOk.asg (d := (.v (.int .i64 (IntKind.i64.wrap (x6_13 + 2))))) rfl rfl) rfl rfl ?_
                          exact .done (.rf rfl rfl)
                        exact ⟨(IntKind.i64.wrap (x6_13 + 2)), rfl, H⟩
                      · replace H := ifF H hb34
                        refine Ok.le (σ' := ⟨[(0, (S a0)), (1, (S a1)), (7, (.sref 7)), (8, (.v (.int .i64 (IntKind.i64.wrap (x6_13 + 2))))), (9, (.v (.int .i64 t26))), (10, (.v (.int .i64 (IntKind.i64.wrap (t26 - 2)))))], [(7, (.rows true 43 2 (y7_14.map e_api_Part)))]⟩) (.rf rfl rfl) ?_
                        refine Ok.skip ?_
                        exact ⟨(IntKind.i64.wrap (t26 - 2)), rfl, H⟩
                    · rintro σ ⟨x10_28, rfl, H⟩
                      unfold watchbillref08_Parse.j2 at H
                      refine Ok.seq ?_
                      obtain ⟨c29, H⟩ := assertE H
                      obtain ⟨t30, h31, H⟩ := bindE H
                      refine Ok.region (σ' := ⟨[(0, (S a0)), (1, (S a1)), (7, (.sref 7)), (9, (.v (.int .i64 t26))), (11, (L 2 e_api_Field t30.1)), (12, (S t30.2.1)), (13, (.v (.int .i64 t30.2.2)))], [(7, (.rows true 43 2 (y7_14.map e_api_Part)))]⟩) ?_ ?_
                      · refine .cv (VOk.mv (d := (S a0)) rfl rfl) rfl rfl ?_
                        refine .cv (VOk.mv (d := (.v (.int .i64 (IntKind.i64.wrap (x6_13 + 2))))) rfl rfl) rfl rfl ?_
                        refine .cv (VOk.mv (d := (.v (.int .i64 x10_28))) rfl rfl) rfl rfl ?_
                        refine .cv (VOk.sliceStr (s := a0) (l := (IntKind.i64.wrap (x6_13 + 2))) (h := x10_28) rfl Tryd.underlying9 rfl rfl rfl c29) rfl rfl ?_
                        refine .cg (GOk.call rfl rfl cl33 rfl (watchbillref07_Parse.ok h31) rfl) rfl rfl ?_
                        refine .cv (VOk.mv (d := (.tup [(L 2 e_api_Field t30.1), (S t30.2.1), (.v (.int .i64 t30.2.2))])) rfl rfl) rfl rfl ?_
                        refine .cv (VOk.extract (d := (L 2 e_api_Field t30.1)) rfl rfl rfl) rfl rfl ?_
                        refine .cv (VOk.extract (d := (S t30.2.1)) rfl rfl rfl) rfl rfl ?_
                        refine .cv (VOk.extract (d := (.v (.int .i64 t30.2.2))) rfl rfl rfl) rfl rfl ?_
                        refine .cv (VOk.asg (d := (L 2 e_api_Field t30.1)) rfl rfl) rfl rfl ?_
                        refine .cv (VOk.asg (d := (S t30.2.1)) rfl rfl) rfl rfl ?_
                        refine .cv (VOk.asg (d := (.v (.int .i64 t30.2.2))) rfl rfl) rfl rfl ?_
                        exact .done (.rf rfl rfl)
                      refine Ok.seq ?_
                      refine Ok.seq ?_
                      refine Ok.region (σ' := ⟨[(0, (S a0)), (1, (S a1)), (7, (.sref 7)), (9, (.v (.int .i64 t26))), (11, (L 2 e_api_Field t30.1)), (12, (S t30.2.1)), (13, (.v (.int .i64 t30.2.2))), (83, (.v (.bool (t30.2.2 != 0))))], [(7, (.rows true 43 2 (y7_14.map e_api_Part)))]⟩) ?_ ?_
                      · refine .cv (VOk.mv (d := (.v (.int .i64 t30.2.2))) rfl rfl) rfl rfl ?_
                        refine .cv (VOk.arith (op := .neq) (k := .i64) (a := t30.2.2) (b := 0) rfl rfl rfl rfl) rfl rfl ?_
                        exact .done (.rf rfl rfl)
                      refine Ok.test (b := (t30.2.2 != 0)) rfl (fun hb33 => ?_) (fun hb33 => ?_)
                      · replace H := ifT H hb33
                        refine Ok.seq ?_
                        refine Ok.region (σ' := ⟨[(4, (.v (.slice none 0 0))), (5, (.v (.int .i64 t30.2.2)))], []⟩) ?_ ?_
                        · refine .cv (VOk.mv (d := (.v (.int .i64 t30.2.2))) rfl rfl) rfl rfl ?_
                          refine .cv (VOk.asg (d := (.v (.slice none 0 0))) rfl rfl) rfl rfl ?_
                          refine .cv (VOk.asg (d := (.v (.int .i64 t30.2.2))) rfl rfl) rfl rfl ?_
                          exact .done (.rf rfl rfl)
                        refine Ok.le (σ' := ⟨[(4, (L 2 e_api_Part ([] : List T_api_Part))), (5, (.v (.int .i64 t30.2.2)))], []⟩) (.mk ⟨.nil _, .same _, trivial⟩ trivial) ?_
                        refine Ok.ret ?_
                        obtain rfl := Option.some.inj H
                        exact ⟨.inl rfl, ⟨_, (.cons (.tmp rfl) (.cons (.tmp rfl) .nil)), rfl⟩, trivial⟩
                      · replace H := ifF H hb33
                        refine Ok.skip ?_
                        refine Ok.seq ?_
                        obtain ⟨c32, H⟩ := assertE H
                        refine Ok.region (σ' := ⟨[(0, (S a0)), (1, (S a1)), (7, (.sref 7)), (9, (.v (.int .i64 t26)))], [(7, (.rows true 43 2 ((y7_14 ++ ([(T_api_Part.mk t30.1 t30.2.1)] : List T_api_Part)).map e_api_Part)))]⟩) ?_ ?_
                        · refine .cv (VOk.mv (d := (.sref 7)) rfl rfl) rfl rfl ?_
                          refine .cv (VOk.mv (d := (L 2 e_api_Field t30.1)) rfl rfl) rfl rfl ?_
                          refine .cv (VOk.mv (d := (S t30.2.1)) rfl rfl) rfl rfl ?_
                          refine .cv (VOk.to (d' := (.agg (e_api_Part (T_api_Part.mk t30.1 t30.2.1)))) (.build [some 2, none] [(0, 1), (1, 1)] rfl Tryd.underlying43 (fa43 Tryd.underlying43) zo43 rfl rfl) rfl) rfl rfl ?_
                          refine .cg (GOk.to (d' := (L 2 e_api_Part ([(T_api_Part.mk t30.1 t30.2.1)] : List T_api_Part))) (GOk.lit rfl Tryd.underlying22 sz43 zs43 rfl rfl rfl rfl) rfl) rfl rfl ?_
                          refine OpsOk.cons rfl (OpOk.appendL (e := e_api_Part) (xs := y7_14) (ys := ([(T_api_Part.mk t30.1 t30.2.1)] : List T_api_Part)) rfl Tryd.underlying22 elt43 rfl rfl rfl c32 rfl) ?_
                          refine .cv (VOk.asg (d := (.sref 7)) rfl rfl) rfl rfl ?_
                          exact .done (.rf rfl rfl)
                        refine Ok.region (σ' := ⟨[(0, (S a0)), (1, (S a1)), (6, (.v (.int .i64 t26))), (7, (.sref 7))], [(7, (.rows true 43 2 ((y7_14 ++ ([(T_api_Part.mk t30.1 t30.2.1)] : List T_api_Part)).map e_api_Part)))]⟩) ?_ ?_
                        · refine .cv (VOk.mv (d := (.v (.int .i64 t26))) rfl rfl) rfl rfl ?_
                          refine .cv (VOk.asg (d := (.v (.int .i64 t26))) rfl rfl) rfl rfl ?_
                          exact .done (.rf rfl rfl)
                        exact ⟨m9, Nat.lt_succ_self m9, (y7_14 ++ ([(T_api_Part.mk t30.1 t30.2.1)] : List T_api_Part)), t26, rfl, H⟩

/-! watchbill/watchbillref07.Fields: function 34 -/
def watchbillref07_Fields.l0 (k : Nat) (a0 : List T_api_Field) (a1 : List T_api_Field) : Nat → Int → Option Bool
  | 0, _ => none
  | m3 + 1, x5_1 => (if (decide (x5_1 < (a0.length : Int))) = true then (if (0 : Int) ≤ x5_1 ∧ x5_1 < (a0.length : Int) then (if (0 : Int) ≤ x5_1 ∧ x5_1 < (a1.length : Int) then (if (!((rd a0 x5_1).Name == (rd a1 x5_1).Name && ((rd a0 x5_1).Value == (rd a1 x5_1).Value && true))) = true then some false else watchbillref07_Fields.l0 k a0 a1 m3 (IntKind.i64.wrap (x5_1 + 1))) else none) else none) else some true)
def watchbillref07_Fields (k : Nat) (a0 : List T_api_Field) (a1 : List T_api_Field) : Option Bool := (if ((a0.length : Int) != (a1.length : Int)) = true then some false else watchbillref07_Fields.l0 k a0 a1 k 0)
theorem watchbillref07_Fields.ok {k : Nat} {a0 : List T_api_Field} {a1 : List T_api_Field} {r : Bool} (H : watchbillref07_Fields k a0 a1 = some r) : Vx.Fn Tryd.prog 34 [(L 2 e_api_Field a0), (L 2 e_api_Field a1)] [] (.v (.bool r)) [] := by
  unfold watchbillref07_Fields at H
  refine Vx.Fn.of_okR Tryd.func34 rfl (Nat.le_of_ble_eq_true rfl) ?_
  refine Ok.seq ?_
  refine Ok.region (σ' := ⟨[(0, (L 2 e_api_Field a0)), (1, (L 2 e_api_Field a1))], []⟩) ?_ ?_
  · refine .cv (VOk.asg (d := (.v (.bool false))) rfl rfl) rfl rfl ?_
    exact .done (.rf rfl rfl)
  refine Ok.seq ?_
  refine Ok.seq ?_
  refine Ok.region (σ' := ⟨[(0, (L 2 e_api_Field a0)), (1, (L 2 e_api_Field a1)), (10, (.v (.bool ((a0.length : Int) != (a1.length : Int)))))], []⟩) ?_ ?_
  · refine .cv (VOk.mv (d := (L 2 e_api_Field a0)) rfl rfl) rfl rfl ?_
    refine .cv (VOk.lenL (e := e_api_Field) (xs := a0) rfl Tryd.underlying41 rfl) rfl rfl ?_
    refine .cv (VOk.mv (d := (L 2 e_api_Field a1)) rfl rfl) rfl rfl ?_
    refine .cv (VOk.lenL (e := e_api_Field) (xs := a1) rfl Tryd.underlying41 rfl) rfl rfl ?_
    refine .cv (VOk.arith (op := .neq) (k := .i64) (a := (a0.length : Int)) (b := (a1.length : Int)) rfl rfl rfl rfl) rfl rfl ?_
    exact .done (.rf rfl rfl)
  refine Ok.test (b := ((a0.length : Int) != (a1.length : Int))) rfl (fun hb8 => ?_) (fun hb8 => ?_)
  · replace H := ifT H hb8
    refine Ok.seq ?_
    refine Ok.region (σ' := ⟨[(4, (.v (.bool false)))], []⟩) ?_ ?_
    · refine .cv (VOk.asg (d := (.v (.bool false))) rfl rfl) rfl rfl ?_
      exact .done (.rf rfl rfl)
    refine Ok.ret ?_
    obtain rfl := Option.some.inj H
    exact ⟨.inl rfl, ⟨_, (.cons (.tmp rfl) .nil), rfl⟩, trivial⟩
  · replace H := ifF H hb8
    refine Ok.skip ?_
    refine Ok.seq ?_
    refine Ok.seq ?_
    refine Ok.region (σ' := ⟨[(0, (L 2 e_api_Field a0)), (1, (L 2 e_api_Field a1)), (5, (.v (.int .i64 0)))], []⟩) ?_ ?_
    · refine .cv (VOk.asg (d := (.v (.int .i64 0))) rfl rfl) rfl rfl ?_
      exact .done (.rf rfl rfl)
    refine Ok.block ?_
    refine Ok.le (σ' := ⟨[(0, (L 2 e_api_Field a0)), (1, (L 2 e_api_Field a1)), (5, (.v (.int .i64 0)))], []⟩) (.rf rfl rfl) ?_
    refine Ok.loop (fun m3 σ => ∃ (x5_1 : Int), σ = ⟨[(0, (L 2 e_api_Field a0)), (1, (L 2 e_api_Field a1)), (5, (.v (.int .i64 x5_1)))], []⟩ ∧ watchbillref07_Fields.l0 k a0 a1 m3 x5_1 = some r) k ⟨0, rfl, H⟩ ?_
    rintro m3 σ ⟨x5_1, rfl, H⟩
    cases m3 with
    | zero => exact absurd H (by simp [watchbillref07_Fields.l0])
    | succ m3 =>
      unfold watchbillref07_Fields.l0 at H
      refine Ok.seq ?_
      refine Ok.seq ?_
      refine Ok.region (σ' := ⟨[(0, (L 2 e_api_Field a0)), (1, (L 2 e_api_Field a1)), (5, (.v (.int .i64 x5_1))), (14, (.v (.bool (decide (x5_1 < (a0.length : Int))))))], []⟩) ?_ ?_
      · refine .cv (VOk.mv (d := (.v (.int .i64 x5_1))) rfl rfl) rfl rfl ?_
        refine .cv (VOk.mv (d := (L 2 e_api_Field a0)) rfl rfl) rfl rfl ?_
        refine .cv (VOk.lenL (e := e_api_Field) (xs := a0) rfl Tryd.underlying41 rfl) rfl rfl ?_
        refine .cv (VOk.arith (op := .lss) (k := .i64) (a := x5_1) (b := (a0.length : Int)) rfl rfl rfl rfl) rfl rfl ?_
        exact .done (.rf rfl rfl)
      refine Ok.test (b := (decide (x5_1 < (a0.length : Int)))) rfl (fun hb7 => ?_) (fun hb7 => ?_)
      · replace H := ifT H hb7
        refine Ok.skip ?_
        refine Ok.seq ?_
        refine Ok.block ?_
        refine Ok.seq ?_
        obtain ⟨c4, H⟩ := assertE H
        obtain ⟨c5, H⟩ := assertE H
        refine Ok.drawE (σ' := ⟨[(0, (L 2 e_api_Field a0)), (1, (L 2 e_api_Field a1)), (5, (.v (.int .i64 x5_1))), (25, (.v (.bool (!((rd a0 x5_1).Name == (rd a1 x5_1).Name && ((rd a0 x5_1).Value == (rd a1 x5_1).Value && true))))))], []⟩) [⟨true, [(0, (L 2 e_api_Field a0))], (L 2 e_api_Field a0)⟩, ⟨true, [(5, (.v (.int .i64 x5_1)))], (.v (.int .i64 x5_1))⟩, ⟨true, [(17, (L 2 e_api_Field a0)), (18, (.v (.int .i64 x5_1)))], (.fp (e_api_Field (rd a0 x5_1)) 0)⟩, ⟨true, [(19, (.fp (e_api_Field (rd a0 x5_1)) 0))], (.agg (e_api_Field (rd a0 x5_1)))⟩, ⟨true, [(1, (L 2 e_api_Field a1))], (L 2 e_api_Field a1)⟩, ⟨true, [(5, (.v (.int .i64 x5_1)))], (.v (.int .i64 x5_1))⟩, ⟨true, [(21, (L 2 e_api_Field a1)), (22, (.v (.int .i64 x5_1)))], (.fp (e_api_Field (rd a1 x5_1)) 0)⟩, ⟨true, [(23, (.fp (e_api_Field (rd a1 x5_1)) 0))], (.agg (e_api_Field (rd a1 x5_1)))⟩, ⟨true, [(20, (.agg (e_api_Field (rd a0 x5_1)))), (24, (.agg (e_api_Field (rd a1 x5_1))))], (.v (.bool (!((rd a0 x5_1).Name == (rd a1 x5_1).Name && ((rd a0 x5_1).Value == (rd a1 x5_1).Value && true)))))⟩] [[], [], [0, 1], [2], [], [], [4, 5], [6], [3, 7]] mixed (by kernel_rfl) ?_ ?_
        · refine TxtE.cons rfl ⟨.same _, trivial⟩ rfl (VOk.g (VOk.mv (d := (L 2 e_api_Field a0)) rfl rfl)) ?_
          refine TxtE.cons rfl ⟨.same _, trivial⟩ rfl (VOk.g (VOk.mv (d := (.v (.int .i64 x5_1))) rfl rfl)) ?_
          refine TxtE.cons rfl ⟨.same _, .same _, trivial⟩ rfl (VOk.g (VOk.indexL (sz := 2) (e := e_api_Field) (xs := a0) (i := x5_1) rfl Tryd.underlying41 sz67 rfl rfl c4)) ?_
          refine TxtE.cons rfl ⟨.same _, trivial⟩ rfl (VOk.g (VOk.to (d' := (.agg (e_api_Field (rd a0 x5_1)))) (.loadFpAgg rfl Tryd.underlying67 rfl sz67 rfl rfl) rfl)) ?_
          refine TxtE.cons rfl ⟨.same _, trivial⟩ rfl (VOk.g (VOk.mv (d := (L 2 e_api_Field a1)) rfl rfl)) ?_
          refine TxtE.cons rfl ⟨.same _, trivial⟩ rfl (VOk.g (VOk.mv (d := (.v (.int .i64 x5_1))) rfl rfl)) ?_
          refine TxtE.cons rfl ⟨.same _, .same _, trivial⟩ rfl (VOk.g (VOk.indexL (sz := 2) (e := e_api_Field) (xs := a1) (i := x5_1) rfl Tryd.underlying41 sz67 rfl rfl c5)) ?_
          refine TxtE.cons rfl ⟨.same _, trivial⟩ rfl (VOk.g (VOk.to (d' := (.agg (e_api_Field (rd a1 x5_1)))) (.loadFpAgg rfl Tryd.underlying67 rfl sz67 rfl rfl) rfl)) ?_
          refine TxtE.cons rfl ⟨.same _, .same _, trivial⟩ rfl (VOk.g (VOk.eqS' (op := .neq) (d := (.v (.bool (!((rd a0 x5_1).Name == (rd a1 x5_1).Name && ((rd a0 x5_1).Value == (rd a1 x5_1).Value && true)))))) rfl (.inr rfl) (eqt67 9998) ag67 eg67 rfl rfl rfl rfl)) ?_
          exact .done (.rf rfl rfl)
        refine Ok.test (b := (!((rd a0 x5_1).Name == (rd a1 x5_1).Name && ((rd a0 x5_1).Value == (rd a1 x5_1).Value && true)))) rfl (fun hb6 => ?_) (fun hb6 => ?_)
        · replace H := ifT H hb6
          refine Ok.seq ?_
          refine Ok.region (σ' := ⟨[(4, (.v (.bool false)))], []⟩) ?_ ?_
          · refine .cv (VOk.asg (d := (.v (.bool false))) rfl rfl) rfl rfl ?_
            exact .done (.rf rfl rfl)
          refine Ok.ret ?_
          obtain rfl := Option.some.inj H
          exact ⟨.inl rfl, ⟨_, (.cons (.tmp rfl) .nil), rfl⟩, trivial⟩
        · replace H := ifF H hb6
          refine Ok.skip ?_
          refine Ok.region (σ' := ⟨[(0, (L 2 e_api_Field a0)), (1, (L 2 e_api_Field a1)), (5, (.v (.int .i64 (IntKind.i64.wrap (x5_1 + 1)))))], []⟩) ?_ ?_
          · refine .cv (VOk.mv (d := (.v (.int .i64 x5_1))) rfl rfl) rfl rfl ?_
            refine .cv (VOk.arith (op := .add) (k := .i64) (a := x5_1) (b := 1) rfl rfl rfl rfl) rfl rfl ?_
            refine .cv (VOk.asg (d := (.v (.int .i64 (IntKind.i64.wrap (x5_1 + 1))))) rfl rfl) rfl rfl ?_
            exact .done (.rf rfl rfl)
          exact ⟨m3, Nat.lt_succ_self m3, (IntKind.i64.wrap (x5_1 + 1)), rfl, H⟩
      · replace H := ifF H hb7
        refine Ok.exit ?_
        refine Ok.seq ?_
        refine Ok.region (σ' := ⟨[(4, (.v (.bool true)))], []⟩) ?_ ?_
        · refine .cv (VOk.asg (d := (.v (.bool true))) rfl rfl) rfl rfl ?_
          exact .done (.rf rfl rfl)
        refine Ok.ret ?_
        obtain rfl := Option.some.inj H
        exact ⟨.inl rfl, ⟨_, (.cons (.tmp rfl) .nil), rfl⟩, trivial⟩

/-! watchbill/watchbillref08.Same: function 15 -/
def watchbillref08_Same.l0 (k : Nat) (a0 : List T_api_Part) (a1 : List T_api_Part) : Nat → Int → Option Bool
  | 0, _ => none
  | m3 + 1, x5_1 => (if (decide (x5_1 < (a0.length : Int))) = true then (if (0 : Int) ≤ x5_1 ∧ x5_1 < (a0.length : Int) then (if (0 : Int) ≤ x5_1 ∧ x5_1 < (a1.length : Int) then (if (((!(((rd a0 x5_1).Body) == ((rd a1 x5_1).Body))) == false) = true → (0 : Int) ≤ x5_1 ∧ x5_1 < (a0.length : Int)) then (if (((!(((rd a0 x5_1).Body) == ((rd a1 x5_1).Body))) == false) = true → (0 : Int) ≤ x5_1 ∧ x5_1 < (a1.length : Int)) then (((if ((!(((rd a0 x5_1).Body) == ((rd a1 x5_1).Body))) == false) = true then watchbillref07_Fields k ((rd a0 x5_1).Fields) ((rd a1 x5_1).Fields) else some default)).bind fun (t9 : Bool) => (if ((!(((rd a0 x5_1).Body) == ((rd a1 x5_1).Body))) || (!t9)) = true then some false else watchbillref08_Same.l0 k a0 a1 m3 (IntKind.i64.wrap (x5_1 + 1)))) else none) else none) else none) else none) else some true)
def watchbillref08_Same (k : Nat) (a0 : List T_api_Part) (a1 : List T_api_Part) : Option Bool := (if ((a0.length : Int) != (a1.length : Int)) = true then some false else watchbillref08_Same.l0 k a0 a1 k 0)
theorem watchbillref08_Same.ok {k : Nat} {a0 : List T_api_Part} {a1 : List T_api_Part} {r : Bool} (H : watchbillref08_Same k a0 a1 = some r) : Vx.Fn Tryd.prog 15 [(L 2 e_api_Part a0), (L 2 e_api_Part a1)] [] (.v (.bool r)) [] := by
  unfold watchbillref08_Same at H
  refine Vx.Fn.of_okR Tryd.func15 rfl (Nat.le_of_ble_eq_true rfl) ?_
  refine Ok.seq ?_
  refine Ok.region (σ' := ⟨[(0, (L 2 e_api_Part a0)), (1, (L 2 e_api_Part a1))], []⟩) ?_ ?_
  · refine .cv (VOk.asg (d := (.v (.bool false))) rfl rfl) rfl rfl ?_
    exact .done (.rf rfl rfl)
  refine Ok.seq ?_
  refine Ok.seq ?_
  refine Ok.region (σ' := ⟨[(0, (L 2 e_api_Part a0)), (1, (L 2 e_api_Part a1)), (10, (.v (.bool ((a0.length : Int) != (a1.length : Int)))))], []⟩) ?_ ?_
  · refine .cv (VOk.mv (d := (L 2 e_api_Part a0)) rfl rfl) rfl rfl ?_
    refine .cv (VOk.lenL (e := e_api_Part) (xs := a0) rfl Tryd.underlying22 rfl) rfl rfl ?_
    refine .cv (VOk.mv (d := (L 2 e_api_Part a1)) rfl rfl) rfl rfl ?_
    refine .cv (VOk.lenL (e := e_api_Part) (xs := a1) rfl Tryd.underlying22 rfl) rfl rfl ?_
    refine .cv (VOk.arith (op := .neq) (k := .i64) (a := (a0.length : Int)) (b := (a1.length : Int)) rfl rfl rfl rfl) rfl rfl ?_
    exact .done (.rf rfl rfl)
  refine Ok.test (b := ((a0.length : Int) != (a1.length : Int))) rfl (fun hb14 => ?_) (fun hb14 => ?_)
  · replace H := ifT H hb14
    refine Ok.seq ?_
    refine Ok.region (σ' := ⟨[(4, (.v (.bool false)))], []⟩) ?_ ?_
    · refine .cv (VOk.asg (d := (.v (.bool false))) rfl rfl) rfl rfl ?_
      exact .done (.rf rfl rfl)
    refine Ok.ret ?_
    obtain rfl := Option.some.inj H
    exact ⟨.inl rfl, ⟨_, (.cons (.tmp rfl) .nil), rfl⟩, trivial⟩
  · replace H := ifF H hb14
    refine Ok.skip ?_
    refine Ok.seq ?_
    refine Ok.seq ?_
    refine Ok.region (σ' := ⟨[(0, (L 2 e_api_Part a0)), (1, (L 2 e_api_Part a1)), (5, (.v (.int .i64 0)))], []⟩) ?_ ?_
    · refine .cv (VOk.asg (d := (.v (.int .i64 0))) rfl rfl) rfl rfl ?_
      exact .done (.rf rfl rfl)
    refine Ok.block ?_
    refine Ok.le (σ' := ⟨[(0, (L 2 e_api_Part a0)), (1, (L 2 e_api_Part a1)), (5, (.v (.int .i64 0)))], []⟩) (.rf rfl rfl) ?_
    refine Ok.loop (fun m3 σ => ∃ (x5_1 : Int), σ = ⟨[(0, (L 2 e_api_Part a0)), (1, (L 2 e_api_Part a1)), (5, (.v (.int .i64 x5_1)))], []⟩ ∧ watchbillref08_Same.l0 k a0 a1 m3 x5_1 = some r) k ⟨0, rfl, H⟩ ?_
    rintro m3 σ ⟨x5_1, rfl, H⟩
    cases m3 with
    | zero => exact absurd H (by simp [watchbillref08_Same.l0])
    | succ m3 =>
      unfold watchbillref08_Same.l0 at H
      refine Ok.seq ?_
      refine Ok.seq ?_
      refine Ok.region (σ' := ⟨[(0, (L 2 e_api_Part a0)), (1, (L 2 e_api_Part a1)), (5, (.v (.int .i64 x5_1))), (14, (.v (.bool (decide (x5_1 < (a0.length : Int))))))], []⟩) ?_ ?_
      · refine .cv (VOk.mv (d := (.v (.int .i64 x5_1))) rfl rfl) rfl rfl ?_
        refine .cv (VOk.mv (d := (L 2 e_api_Part a0)) rfl rfl) rfl rfl ?_
        refine .cv (VOk.lenL (e := e_api_Part) (xs := a0) rfl Tryd.underlying22 rfl) rfl rfl ?_
        refine .cv (VOk.arith (op := .lss) (k := .i64) (a := x5_1) (b := (a0.length : Int)) rfl rfl rfl rfl) rfl rfl ?_
        exact .done (.rf rfl rfl)
      refine Ok.test (b := (decide (x5_1 < (a0.length : Int)))) rfl (fun hb13 => ?_) (fun hb13 => ?_)
      · replace H := ifT H hb13
        refine Ok.skip ?_
        refine Ok.seq ?_
        refine Ok.block ?_
        refine Ok.seq ?_
        obtain ⟨c4, H⟩ := assertE H
        obtain ⟨c5, H⟩ := assertE H
        obtain ⟨c7, H⟩ := assertE H
        obtain ⟨c8, H⟩ := assertE H
        obtain ⟨t9, h10, H⟩ := bindE H
        refine Ok.drawE (σ' := ⟨[(0, (L 2 e_api_Part a0)), (1, (L 2 e_api_Part a1)), (5, (.v (.int .i64 x5_1))), (41, (.v (.bool ((!(((rd a0 x5_1).Body) == ((rd a1 x5_1).Body))) || (!t9)))))], []⟩) [⟨true, [(0, (L 2 e_api_Part a0))], (L 2 e_api_Part a0)⟩, ⟨true, [(5, (.v (.int .i64 x5_1)))], (.v (.int .i64 x5_1))⟩, ⟨true, [(17, (L 2 e_api_Part a0)), (18, (.v (.int .i64 x5_1)))], (.fp (e_api_Part (rd a0 x5_1)) 0)⟩, ⟨true, [(19, (.fp (e_api_Part (rd a0 x5_1)) 0))], (.fp (e_api_Part (rd a0 x5_1)) 1)⟩, ⟨true, [(20, (.fp (e_api_Part (rd a0 x5_1)) 1))], (S ((rd a0 x5_1).Body))⟩, ⟨true, [(1, (L 2 e_api_Part a1))], (L 2 e_api_Part a1)⟩, ⟨true, [(5, (.v (.int .i64 x5_1)))], (.v (.int .i64 x5_1))⟩, ⟨true, [(22, (L 2 e_api_Part a1)), (23, (.v (.int .i64 x5_1)))], (.fp (e_api_Part (rd a1 x5_1)) 0)⟩, ⟨true, [(24, (.fp (e_api_Part (rd a1 x5_1)) 0))], (.fp (e_api_Part (rd a1 x5_1)) 1)⟩, ⟨true, [(25, (.fp (e_api_Part (rd a1 x5_1)) 1))], (S ((rd a1 x5_1).Body))⟩, ⟨true, [(21, (S ((rd a0 x5_1).Body))), (26, (S ((rd a1 x5_1).Body)))], (.v (.bool (!(((rd a0 x5_1).Body) == ((rd a1 x5_1).Body)))))⟩, ⟨true, [(27, (.v (.bool (!(((rd a0 x5_1).Body) == ((rd a1 x5_1).Body))))))], (.v (.bool (!(((rd a0 x5_1).Body) == ((rd a1 x5_1).Body)))))⟩, It.I ((!(((rd a0 x5_1).Body) == ((rd a1 x5_1).Body))) == false) [(0, (L 2 e_api_Part a0)), (28, (.v (.bool (!(((rd a0 x5_1).Body) == ((rd a1 x5_1).Body))))))] (L 2 e_api_Part a0), It.I ((!(((rd a0 x5_1).Body) == ((rd a1 x5_1).Body))) == false) [(5, (.v (.int .i64 x5_1))), (28, (.v (.bool (!(((rd a0 x5_1).Body) == ((rd a1 x5_1).Body))))))] (.v (.int .i64 x5_1)), It.I ((!(((rd a0 x5_1).Body) == ((rd a1 x5_1).Body))) == false) [(29, (bif ((!(((rd a0 x5_1).Body) == ((rd a1 x5_1).Body))) == false) then (L 2 e_api_Part a0) else .v undef)), (30, (bif ((!(((rd a0 x5_1).Body) == ((rd a1 x5_1).Body))) == false) then (.v (.int .i64 x5_1)) else .v undef)), (28, (.v (.bool (!(((rd a0 x5_1).Body) == ((rd a1 x5_1).Body))))))] (.fp (e_api_Part (rd a0 x5_1)) 0), It.I ((!(((rd a0 x5_1).Body) == ((rd a1 x5_1).Body))) == false) [(31, (bif ((!(((rd a0 x5_1).Body) == ((rd a1 x5_1).Body))) == false) then (.fp (e_api_Part (rd a0 x5_1)) 0) else .v undef)), (28, (.v (.bool (!(((rd a0 x5_1).Body) == ((rd a1 x5_1).Body))))))] (.fp (e_api_Part (rd a0 x5_1)) 0), It.I ((!(((rd a0 x5_1).Body) == ((rd a1 x5_1).Body))) == false) [(32, (bif ((!(((rd a0 x5_1).Body) == ((rd a1 x5_1).Body))) == false) then (.fp (e_api_Part (rd a0 x5_1)) 0) else .v undef)), (28, (.v (.bool (!(((rd a0 x5_1).Body) == ((rd a1 x5_1).Body))))))] (L 2 e_api_Field ((rd a0 x5_1).Fields)), It.I ((!(((rd a0 x5_1).Body) == ((rd a1 x5_1).Body))) == false) [(1, (L 2 e_api_Part a1)), (28, (.v (.bool (!(((rd a0 x5_1).Body) == ((rd a1 x5_1).Body))))))] (L 2 e_api_Part a1), It.I ((!(((rd a0 x5_1).Body) == ((rd a1 x5_1).Body))) == false) [(5, (.v (.int .i64 x5_1))), (28, (.v (.bool (!(((rd a0 x5_1).Body) == ((rd a1 x5_1).Body))))))] (.v (.int .i64 x5_1)), It.I ((!(((rd a0 x5_1).Body) == ((rd a1 x5_1).Body))) == false) [(34, (bif ((!(((rd a0 x5_1).Body) == ((rd a1 x5_1).Body))) == false) then (L 2 e_api_Part a1) else .v undef)), (35, (bif ((!(((rd a0 x5_1).Body) == ((rd a1 x5_1).Body))) == false) then (.v (.int .i64 x5_1)) else .v undef)), (28, (.v (.bool (!(((rd a0 x5_1).Body) == ((rd a1 x5_1).Body))))))] (.fp (e_api_Part (rd a1 x5_1)) 0), It.I ((!(((rd a0 x5_1).Body) == ((rd a1 x5_1).Body))) == false) [(36, (bif ((!(((rd a0 x5_1).Body) == ((rd a1 x5_1).Body))) == false) then (.fp (e_api_Part (rd a1 x5_1)) 0) else .v undef)), (28, (.v (.bool (!(((rd a0 x5_1).Body) == ((rd a1 x5_1).Body))))))] (.fp (e_api_Part (rd a1 x5_1)) 0), It.I ((!(((rd a0 x5_1).Body) == ((rd a1 x5_1).Body))) == false) [(37, (bif ((!(((rd a0 x5_1).Body) == ((rd a1 x5_1).Body))) == false) then (.fp (e_api_Part (rd a1 x5_1)) 0) else .v undef)), (28, (.v (.bool (!(((rd a0 x5_1).Body) == ((rd a1 x5_1).Body))))))] (L 2 e_api_Field ((rd a1 x5_1).Fields)), It.I ((!(((rd a0 x5_1).Body) == ((rd a1 x5_1).Body))) == false) [(33, (bif ((!(((rd a0 x5_1).Body) == ((rd a1 x5_1).Body))) == false) then (L 2 e_api_Field ((rd a0 x5_1).Fields)) else .v undef)), (38, (bif ((!(((rd a0 x5_1).Body) == ((rd a1 x5_1).Body))) == false) then (L 2 e_api_Field ((rd a1 x5_1).Fields)) else .v undef)), (28, (.v (.bool (!(((rd a0 x5_1).Body) == ((rd a1 x5_1).Body))))))] (.v (.bool t9)), It.I ((!(((rd a0 x5_1).Body) == ((rd a1 x5_1).Body))) == false) [(39, (bif ((!(((rd a0 x5_1).Body) == ((rd a1 x5_1).Body))) == false) then (.v (.bool t9)) else .v undef)), (28, (.v (.bool (!(((rd a0 x5_1).Body) == ((rd a1 x5_1).Body))))))] (.v (.bool (!t9))), ⟨true, [(28, (.v (.bool (!(((rd a0 x5_1).Body) == ((rd a1 x5_1).Body)))))), (40, (bif ((!(((rd a0 x5_1).Body) == ((rd a1 x5_1).Body))) == false) then (.v (.bool (!t9))) else .v undef))], (.v (.bool ((!(((rd a0 x5_1).Body) == ((rd a1 x5_1).Body))) || (!t9))))⟩] [[], [], [0, 1], [2], [3], [], [], [5, 6], [7], [8], [4, 9], [10], [11], [11], [11, 12, 13], [11, 14], [11, 15], [11], [11], [11, 17, 18], [11, 19], [11, 20], [11, 16, 21], [11, 22], [11, 23]] mixed (by kernel_rfl) ?_ ?_
        · refine TxtE.cons rfl ⟨.same _, trivial⟩ rfl (VOk.g (VOk.mv (d := (L 2 e_api_Part a0)) rfl rfl)) ?_
          refine TxtE.cons rfl ⟨.same _, trivial⟩ rfl (VOk.g (VOk.mv (d := (.v (.int .i64 x5_1))) rfl rfl)) ?_
          refine TxtE.cons rfl ⟨.same _, .same _, trivial⟩ rfl (VOk.g (VOk.indexL (sz := 2) (e := e_api_Part) (xs := a0) (i := x5_1) rfl Tryd.underlying22 sz43 rfl rfl c4)) ?_
          refine TxtE.cons rfl ⟨.same _, trivial⟩ rfl (VOk.g (VOk.to (VOk.fieldFp rfl Tryd.underlying43 rfl sz9 rfl) rfl)) ?_
          refine TxtE.cons rfl ⟨.same _, trivial⟩ rfl (VOk.g (VOk.loadFp (d := (S ((rd a0 x5_1).Body))) rfl Tryd.underlying9 rfl rfl rfl)) ?_
          refine TxtE.cons rfl ⟨.same _, trivial⟩ rfl (VOk.g (VOk.mv (d := (L 2 e_api_Part a1)) rfl rfl)) ?_
          refine TxtE.cons rfl ⟨.same _, trivial⟩ rfl (VOk.g (VOk.mv (d := (.v (.int .i64 x5_1))) rfl rfl)) ?_
          refine TxtE.cons rfl ⟨.same _, .same _, trivial⟩ rfl (VOk.g (VOk.indexL (sz := 2) (e := e_api_Part) (xs := a1) (i := x5_1) rfl Tryd.underlying22 sz43 rfl rfl c5)) ?_
          refine TxtE.cons rfl ⟨.same _, trivial⟩ rfl (VOk.g (VOk.to (VOk.fieldFp rfl Tryd.underlying43 rfl sz9 rfl) rfl)) ?_
          refine TxtE.cons rfl ⟨.same _, trivial⟩ rfl (VOk.g (VOk.loadFp (d := (S ((rd a1 x5_1).Body))) rfl Tryd.underlying9 rfl rfl rfl)) ?_
          refine TxtE.cons rfl ⟨.same _, .same _, trivial⟩ rfl (VOk.g (VOk.strOp (op := .neq) (a := (rd a0 x5_1).Body) (b := (rd a1 x5_1).Body) rfl rfl rfl rfl)) ?_
          refine TxtE.cons rfl ⟨.same _, trivial⟩ rfl (VOk.g (VOk.mv (d := (.v (.bool (!(((rd a0 x5_1).Body) == ((rd a1 x5_1).Body)))))) rfl rfl)) ?_
          refine TxtE.consI rfl ⟨.same _, .same _, trivial⟩ rfl rfl (.one rfl) (fun hw6 => (VOk.g (VOk.mv (d := (L 2 e_api_Part a0)) rfl rfl))) ?_
          refine TxtE.consI rfl ⟨.same _, .same _, trivial⟩ rfl rfl (.one rfl) (fun hw6 => (VOk.g (VOk.mv (d := (.v (.int .i64 x5_1))) rfl rfl))) ?_
          refine TxtE.consI rfl ⟨.same _, .same _, .same _, trivial⟩ rfl rfl (.one rfl) (fun hw6 => (GOk.fr (fr' := [(29, (L 2 e_api_Part a0)), (30, (.v (.int .i64 x5_1)))]) ⟨DLe.of_eq (cT hw6).symm, DLe.of_eq (cT hw6).symm, trivial⟩ (VOk.g (VOk.indexL (sz := 2) (e := e_api_Part) (xs := a0) (i := x5_1) rfl Tryd.underlying22 sz43 rfl rfl (c7 hw6))))) ?_
          refine TxtE.consI rfl ⟨.same _, .same _, trivial⟩ rfl rfl (.one rfl) (fun hw6 => (GOk.fr (fr' := [(31, (.fp (e_api_Part (rd a0 x5_1)) 0))]) ⟨DLe.of_eq (cT hw6).symm, trivial⟩ (VOk.g (VOk.to (VOk.fieldFp rfl Tryd.underlying43 rfl sz41 rfl) rfl)))) ?_
          refine TxtE.consI rfl ⟨.same _, .same _, trivial⟩ rfl rfl (.one rfl) (fun hw6 => (GOk.fr (fr' := [(32, (.fp (e_api_Part (rd a0 x5_1)) 0))]) ⟨DLe.of_eq (cT hw6).symm, trivial⟩ (VOk.g (VOk.loadFp (d := (L 2 e_api_Field ((rd a0 x5_1).Fields))) rfl Tryd.underlying41 rfl rfl rfl)))) ?_
          refine TxtE.consI rfl ⟨.same _, .same _, trivial⟩ rfl rfl (.one rfl) (fun hw6 => (VOk.g (VOk.mv (d := (L 2 e_api_Part a1)) rfl rfl))) ?_
          refine TxtE.consI rfl ⟨.same _, .same _, trivial⟩ rfl rfl (.one rfl) (fun hw6 => (VOk.g (VOk.mv (d := (.v (.int .i64 x5_1))) rfl rfl))) ?_
          refine TxtE.consI rfl ⟨.same _, .same _, .same _, trivial⟩ rfl rfl (.one rfl) (fun hw6 => (GOk.fr (fr' := [(34, (L 2 e_api_Part a1)), (35, (.v (.int .i64 x5_1)))]) ⟨DLe.of_eq (cT hw6).symm, DLe.of_eq (cT hw6).symm, trivial⟩ (VOk.g (VOk.indexL (sz := 2) (e := e_api_Part) (xs := a1) (i := x5_1) rfl Tryd.underlying22 sz43 rfl rfl (c8 hw6))))) ?_
          refine TxtE.consI rfl ⟨.same _, .same _, trivial⟩ rfl rfl (.one rfl) (fun hw6 => (GOk.fr (fr' := [(36, (.fp (e_api_Part (rd a1 x5_1)) 0))]) ⟨DLe.of_eq (cT hw6).symm, trivial⟩ (VOk.g (VOk.to (VOk.fieldFp rfl Tryd.underlying43 rfl sz41 rfl) rfl)))) ?_
          refine TxtE.consI rfl ⟨.same _, .same _, trivial⟩ rfl rfl (.one rfl) (fun hw6 => (GOk.fr (fr' := [(37, (.fp (e_api_Part (rd a1 x5_1)) 0))]) ⟨DLe.of_eq (cT hw6).symm, trivial⟩ (VOk.g (VOk.loadFp (d := (L 2 e_api_Field ((rd a1 x5_1).Fields))) rfl Tryd.underlying41 rfl rfl rfl)))) ?_
          refine TxtE.consI rfl ⟨.same _, .same _, .same _, trivial⟩ rfl rfl (.one rfl) (fun hw6 => (GOk.fr (fr' := [(33, (L 2 e_api_Field ((rd a0 x5_1).Fields))), (38, (L 2 e_api_Field ((rd a1 x5_1).Fields)))]) ⟨DLe.of_eq (cT hw6).symm, DLe.of_eq (cT hw6).symm, trivial⟩ (GOk.call rfl rfl cl34 rfl (watchbillref07_Fields.ok (ifT h10 hw6)) rfl))) ?_
          refine TxtE.consI rfl ⟨.same _, .same _, trivial⟩ rfl rfl (.one rfl) (fun hw6 => (GOk.fr (fr' := [(39, (.v (.bool t9)))]) ⟨DLe.of_eq (cT hw6).symm, trivial⟩ (VOk.g (VOk.not (b := t9) rfl rfl)))) ?_
          refine TxtE.cons rfl ⟨.same _, .same _, trivial⟩ rfl (VOk.g (VOk.to (VOk.pickI (b := (!(((rd a0 x5_1).Body) == ((rd a1 x5_1).Body)))) (p := true) (q := (!t9)) rfl rfl (fun hp11 => rfl) (fun hp11 => (cT (f_beq hp11)))) (pickOr (!(((rd a0 x5_1).Body) == ((rd a1 x5_1).Body))) (!t9)))) ?_
          exact .done (.rf rfl rfl)
        refine Ok.test (b := ((!(((rd a0 x5_1).Body) == ((rd a1 x5_1).Body))) || (!t9))) rfl (fun hb12 => ?_) (fun hb12 => ?_)
        · replace H := ifT H hb12
          refine Ok.seq ?_
          refine Ok.region (σ' := ⟨[(4, (.v (.bool false)))], []⟩) ?_ ?_
          · refine .cv (VOk.asg (d := (.v (.bool false))) rfl rfl) rfl rfl ?_
            exact .done (.rf rfl rfl)
          refine Ok.ret ?_
          obtain rfl := Option.some.inj H
          exact ⟨.inl rfl, ⟨_, (.cons (.tmp rfl) .nil), rfl⟩, trivial⟩
        · replace H := ifF H hb12
          refine Ok.skip ?_
          refine Ok.region (σ' := ⟨[(0, (L 2 e_api_Part a0)), (1, (L 2 e_api_Part a1)), (5, (.v (.int .i64 (IntKind.i64.wrap (x5_1 + 1)))))], []⟩) ?_ ?_
          · refine .cv (VOk.mv (d := (.v (.int .i64 x5_1))) rfl rfl) rfl rfl ?_
            refine .cv (VOk.arith (op := .add) (k := .i64) (a := x5_1) (b := 1) rfl rfl rfl rfl) rfl rfl ?_
            refine .cv (VOk.asg (d := (.v (.int .i64 (IntKind.i64.wrap (x5_1 + 1))))) rfl rfl) rfl rfl ?_
            exact .done (.rf rfl rfl)
          exact ⟨m3, Nat.lt_succ_self m3, (IntKind.i64.wrap (x5_1 + 1)), rfl, H⟩
      · replace H := ifF H hb13
        refine Ok.exit ?_
        refine Ok.seq ?_
        refine Ok.region (σ' := ⟨[(4, (.v (.bool true)))], []⟩) ?_ ?_
        · refine .cv (VOk.asg (d := (.v (.bool true))) rfl rfl) rfl rfl ?_
          exact .done (.rf rfl rfl)
        refine Ok.ret ?_
        obtain rfl := Option.some.inj H
        exact ⟨.inl rfl, ⟨_, (.cons (.tmp rfl) .nil), rfl⟩, trivial⟩

/-! watchbill/watchbilllaw08.PartParses: function 4 -/
def watchbilllaw08_PartParses (k : Nat) (a0 : Str) (a1 : Str) : Option Bool := ((watchbilllaw08_awake k).bind fun (t1 : Bool) => (if (!t1) = true then some false else (if ((decide ((a0.length : Int) > 10000)) || (decide ((a1.length : Int) > 2000))) = true then some true else ((part_Parse k a0 a1).bind fun (t5 : (List T_api_Part) × Int) => ((watchbillref08_Parse k a0 a1).bind fun (t7 : (List T_api_Part) × Int) => ((watchbillref08_Same k t5.1 t7.1).bind fun (t9 : Bool) => some (t9 && (t5.2 == t7.2))))))))
theorem watchbilllaw08_PartParses.ok {k : Nat} {a0 : Str} {a1 : Str} {r : Bool} (H : watchbilllaw08_PartParses k a0 a1 = some r) : Vx.Fn Tryd.prog 4 [(S a0), (S a1)] [] (.v (.bool r)) [] := by
  unfold watchbilllaw08_PartParses at H
  refine Vx.Fn.of_okR Tryd.func4 rfl (Nat.le_of_ble_eq_true rfl) ?_
  refine Ok.seq ?_
  refine Ok.region (σ' := ⟨[(0, (S a0)), (1, (S a1))], []⟩) ?_ ?_
  · refine .cv (VOk.asg (d := (.v (.bool false))) rfl rfl) rfl rfl ?_
    exact .done (.rf rfl rfl)
  refine Ok.seq ?_
  refine Ok.seq ?_
  obtain ⟨t1, h2, H⟩ := bindE H
  refine Ok.region (σ' := ⟨[(0, (S a0)), (1, (S a1)), (10, (.v (.bool (!t1))))], []⟩) ?_ ?_
  · refine .cg (GOk.call rfl rfl cl7 rfl (watchbilllaw08_awake.ok h2) rfl) rfl rfl ?_
    refine .cv (VOk.not (b := t1) rfl rfl) rfl rfl ?_
    exact .done (.rf rfl rfl)
  refine Ok.test (b := (!t1)) rfl (fun hb14 => ?_) (fun hb14 => ?_)
  · replace H := ifT H hb14
    refine Ok.seq ?_
    refine Ok.region (σ' := ⟨[(4, (.v (.bool false)))], []⟩) ?_ ?_
    · refine .cv (VOk.asg (d := (.v (.bool false))) rfl rfl) rfl rfl ?_
      exact .done (.rf rfl rfl)
    refine Ok.ret ?_
    obtain rfl := Option.some.inj H
    exact ⟨.inl rfl, ⟨_, (.cons (.tmp rfl) .nil), rfl⟩, trivial⟩
  · replace H := ifF H hb14
    refine Ok.skip ?_
    refine Ok.seq ?_
    refine Ok.seq ?_
    refine Ok.region (σ' := ⟨[(0, (S a0)), (1, (S a1)), (18, (.v (.bool ((decide ((a0.length : Int) > 10000)) || (decide ((a1.length : Int) > 2000))))))], []⟩) ?_ ?_
    · refine .cv (VOk.mv (d := (S a0)) rfl rfl) rfl rfl ?_
      refine .cv (VOk.lenStr (s := a0) rfl Tryd.underlying9 rfl) rfl rfl ?_
      refine .cv (VOk.arith (op := .gtr) (k := .i64) (a := (a0.length : Int)) (b := 10000) rfl rfl rfl rfl) rfl rfl ?_
      refine .cv (VOk.mv (d := (.v (.bool (decide ((a0.length : Int) > 10000))))) rfl rfl) rfl rfl ?_
      refine OpsOk.consI rfl rfl rfl (.one rfl) rfl (fun hw3 => (VOk.g (VOk.mv (d := (S a1)) rfl rfl))) ?_
      refine OpsOk.consI rfl rfl rfl (.one rfl) rfl (fun hw3 => (GOk.fr (fr' := [(15, (S a1))]) ⟨DLe.of_eq (cT hw3).symm, trivial⟩ (VOk.g (VOk.lenStr (s := a1) rfl Tryd.underlying9 rfl)))) ?_
      refine OpsOk.consI rfl rfl rfl (.one rfl) rfl (fun hw3 => (GOk.fr (fr' := [(16, (.v (.int .i64 (a1.length : Int))))]) ⟨DLe.of_eq (cT hw3).symm, trivial⟩ (VOk.g (VOk.arith (op := .gtr) (k := .i64) (a := (a1.length : Int)) (b := 2000) rfl rfl rfl rfl)))) ?_
      refine .cv (VOk.to (VOk.pickI (b := (decide ((a0.length : Int) > 10000))) (p := true) (q := (decide ((a1.length : Int) > 2000))) rfl rfl (fun hp4 => rfl) (fun hp4 => (cT (f_beq hp4)))) (pickOr (decide ((a0.length : Int) > 10000)) (decide ((a1.length : Int) > 2000)))) rfl rfl ?_
      exact .done (.rf rfl rfl)
    refine Ok.test (b := ((decide ((a0.length : Int) > 10000)) || (decide ((a1.length : Int) > 2000)))) rfl (fun hb13 => ?_) (fun hb13 => ?_)
    · replace H := ifT H hb13
      refine Ok.seq ?_
      refine Ok.region (σ' := ⟨[(4, (.v (.bool true)))], []⟩) ?_ ?_
      · refine .cv (VOk.asg (d := (.v (.bool true))) rfl rfl) rfl rfl ?_
        exact .done (.rf rfl rfl)
      refine Ok.ret ?_
      obtain rfl := Option.some.inj H
      exact ⟨.inl rfl, ⟨_, (.cons (.tmp rfl) .nil), rfl⟩, trivial⟩
    · replace H := ifF H hb13
      refine Ok.skip ?_
      refine Ok.seq ?_
      obtain ⟨t5, h6, H⟩ := bindE H
      refine Ok.region (σ' := ⟨[(0, (S a0)), (1, (S a1)), (5, (L 2 e_api_Part t5.1)), (6, (.v (.int .i64 t5.2)))], []⟩) ?_ ?_
      · refine .cv (VOk.mv (d := (S a0)) rfl rfl) rfl rfl ?_
        refine .cv (VOk.mv (d := (S a1)) rfl rfl) rfl rfl ?_
        refine .cg (GOk.call rfl rfl cl13 rfl (part_Parse.ok h6) rfl) rfl rfl ?_
        refine .cv (VOk.mv (d := (.tup [(L 2 e_api_Part t5.1), (.v (.int .i64 t5.2))])) rfl rfl) rfl rfl ?_
        refine .cv (VOk.extract (d := (L 2 e_api_Part t5.1)) rfl rfl rfl) rfl rfl ?_
        refine .cv (VOk.extract (d := (.v (.int .i64 t5.2))) rfl rfl rfl) rfl rfl ?_
        refine .cv (VOk.asg (d := (L 2 e_api_Part t5.1)) rfl rfl) rfl rfl ?_
        refine .cv (VOk.asg (d := (.v (.int .i64 t5.2))) rfl rfl) rfl rfl ?_
        exact .done (.rf rfl rfl)
      refine Ok.seq ?_
      obtain ⟨t7, h8, H⟩ := bindE H
      refine Ok.region (σ' := ⟨[(5, (L 2 e_api_Part t5.1)), (6, (.v (.int .i64 t5.2))), (7, (L 2 e_api_Part t7.1)), (8, (.v (.int .i64 t7.2)))], []⟩) ?_ ?_
      · refine .cv (VOk.mv (d := (S a0)) rfl rfl) rfl rfl ?_
        refine .cv (VOk.mv (d := (S a1)) rfl rfl) rfl rfl ?_
        refine .cg (GOk.call rfl rfl cl14 rfl (watchbillref08_Parse.ok h8) rfl) rfl rfl ?_
        refine .cv (VOk.mv (d := (.tup [(L 2 e_api_Part t7.1), (.v (.int .i64 t7.2))])) rfl rfl) rfl rfl ?_
        refine .cv (VOk.extract (d := (L 2 e_api_Part t7.1)) rfl rfl rfl) rfl rfl ?_
        refine .cv (VOk.extract (d := (.v (.int .i64 t7.2))) rfl rfl rfl) rfl rfl ?_
        refine .cv (VOk.asg (d := (L 2 e_api_Part t7.1)) rfl rfl) rfl rfl ?_
        refine .cv (VOk.asg (d := (.v (.int .i64 t7.2))) rfl rfl) rfl rfl ?_
        exact .done (.rf rfl rfl)
      refine Ok.seq ?_
      obtain ⟨t9, h10, H⟩ := bindE H
      refine Ok.region (σ' := ⟨[(4, (.v (.bool (t9 && (t5.2 == t7.2)))))], []⟩) ?_ ?_
      · refine .cv (VOk.mv (d := (L 2 e_api_Part t5.1)) rfl rfl) rfl rfl ?_
        refine .cv (VOk.mv (d := (L 2 e_api_Part t7.1)) rfl rfl) rfl rfl ?_
        refine .cg (GOk.call rfl rfl cl15 rfl (watchbillref08_Same.ok h10) rfl) rfl rfl ?_
        refine .cv (VOk.mv (d := (.v (.bool t9))) rfl rfl) rfl rfl ?_
        refine OpsOk.consI rfl rfl rfl (.one rfl) rfl (fun hw11 => (VOk.g (VOk.mv (d := (.v (.int .i64 t5.2))) rfl rfl))) ?_
        refine OpsOk.consI rfl rfl rfl (.one rfl) rfl (fun hw11 => (VOk.g (VOk.mv (d := (.v (.int .i64 t7.2))) rfl rfl))) ?_
        refine OpsOk.consI rfl rfl rfl (.one rfl) rfl (fun hw11 => (GOk.fr (fr' := [(35, (.v (.int .i64 t5.2))), (36, (.v (.int .i64 t7.2)))]) ⟨DLe.of_eq (cT hw11).symm, DLe.of_eq (cT hw11).symm, trivial⟩ (VOk.g (VOk.arith (op := .eql) (k := .i64) (a := t5.2) (b := t7.2) rfl rfl rfl rfl)))) ?_
        refine .cv (VOk.to (VOk.pickI (b := t9) (p := (t5.2 == t7.2)) (q := false) rfl rfl (fun hp12 => (cT (t_beq hp12))) (fun hp12 => rfl)) (pickAnd t9 (t5.2 == t7.2))) rfl rfl ?_
        refine .cv (VOk.asg (d := (.v (.bool (t9 && (t5.2 == t7.2))))) rfl rfl) rfl rfl ?_
        exact .done (.rf rfl rfl)
      refine Ok.ret ?_
      obtain rfl := Option.some.inj H
      exact ⟨.inl rfl, ⟨_, (.cons (.tmp rfl) .nil), rfl⟩, trivial⟩

/-! watchbill/watchbilllaw08.PartCuts: function 5 -/
def watchbilllaw08_PartCuts.j0 (k : Nat) (t5 : Str) (t7 : Str × Int) (x8_9 : Int) : Option Bool := (if (0 : Int) ≤ 0 ∧ (0 : Int) ≤ x8_9 ∧ x8_9 ≤ (t7.1.length : Int) then ((part_Parse k (sl t7.1 0 x8_9) t5).bind fun (t11 : (List T_api_Part) × Int) => some (((t11.1.length : Int) == 0) && (t11.2 != 0))) else none)
def watchbilllaw08_PartCuts (k : Nat) (a0 : List T_api_Part) (a1 : Int) : Option Bool := ((watchbilllaw08_awake k).bind fun (t1 : Bool) => (if (!t1) = true then some false else ((watchbilllaw08_Few k a0).bind fun (t3 : Bool) => (if (!t3) = true then some true else ((part_Choose k a0).bind fun (t5 : Str) => ((part_Print k t5 a0).bind fun (t7 : Str × Int) => (if (t7.2 != 0) = true then some true else (if ((decide (a1 ≥ 0)) && (decide (a1 < (IntKind.i64.wrap ((IntKind.i64.wrap ((t7.1.length : Int) - (t5.length : Int))) - 6))))) = true then watchbilllaw08_PartCuts.j0 k t5 t7 a1 else watchbilllaw08_PartCuts.j0 k t5 t7 (IntKind.i64.wrap ((IntKind.i64.wrap ((t7.1.length : Int) - (t5.length : Int))) - 6))))))))))
theorem watchbilllaw08_PartCuts.ok {k : Nat} {a0 : List T_api_Part} {a1 : Int} {r : Bool} (H : watchbilllaw08_PartCuts k a0 a1 = some r) : Vx.Fn Tryd.prog 5 [(L 2 e_api_Part a0), (.v (.int .i64 a1))] [] (.v (.bool r)) [] := by
  unfold watchbilllaw08_PartCuts at H
  refine Vx.Fn.of_okR Tryd.func5 rfl (Nat.le_of_ble_eq_true rfl) ?_
  refine Ok.seq ?_
  refine Ok.region (σ' := ⟨[(0, (L 2 e_api_Part a0)), (1, (.v (.int .i64 a1)))], []⟩) ?_ ?_
  · refine .cv (VOk.asg (d := (.v (.bool false))) rfl rfl) rfl rfl ?_
    exact .done (.rf rfl rfl)
  refine Ok.seq ?_
  refine Ok.seq ?_
  obtain ⟨t1, h2, H⟩ := bindE H
  refine Ok.region (σ' := ⟨[(0, (L 2 e_api_Part a0)), (1, (.v (.int .i64 a1))), (12, (.v (.bool (!t1))))], []⟩) ?_ ?_
  · refine .cg (GOk.call rfl rfl cl7 rfl (watchbilllaw08_awake.ok h2) rfl) rfl rfl ?_
    refine .cv (VOk.not (b := t1) rfl rfl) rfl rfl ?_
    exact .done (.rf rfl rfl)
  refine Ok.test (b := (!t1)) rfl (fun hb20 => ?_) (fun hb20 => ?_)
  · replace H := ifT H hb20
    refine Ok.seq ?_
    refine Ok.region (σ' := ⟨[(4, (.v (.bool false)))], []⟩) ?_ ?_
    · refine .cv (VOk.asg (d := (.v (.bool false))) rfl rfl) rfl rfl ?_
      exact .done (.rf rfl rfl)
    refine Ok.ret ?_
    obtain rfl := Option.some.inj H
    exact ⟨.inl rfl, ⟨_, (.cons (.tmp rfl) .nil), rfl⟩, trivial⟩
  · replace H := ifF H hb20
    refine Ok.skip ?_
    refine Ok.seq ?_
    refine Ok.seq ?_
    obtain ⟨t3, h4, H⟩ := bindE H
    refine Ok.region (σ' := ⟨[(0, (L 2 e_api_Part a0)), (1, (.v (.int .i64 a1))), (15, (.v (.bool (!t3))))], []⟩) ?_ ?_
    · refine .cv (VOk.mv (d := (L 2 e_api_Part a0)) rfl rfl) rfl rfl ?_
      refine .cg (GOk.call rfl rfl cl8 rfl (watchbilllaw08_Few.ok h4) rfl) rfl rfl ?_
      refine .cv (VOk.not (b := t3) rfl rfl) rfl rfl ?_
      exact .done (.rf rfl rfl)
    refine Ok.test (b := (!t3)) rfl (fun hb19 => ?_) (fun hb19 => ?_)
    · replace H := ifT H hb19
      refine Ok.seq ?_
      refine Ok.region (σ' := ⟨[(4, (.v (.bool true)))], []⟩) ?_ ?_
      · refine .cv (VOk.asg (d := (.v (.bool true))) rfl rfl) rfl rfl ?_
        exact .done (.rf rfl rfl)
      refine Ok.ret ?_
      obtain rfl := Option.some.inj H
      exact ⟨.inl rfl, ⟨_, (.cons (.tmp rfl) .nil), rfl⟩, trivial⟩
    · replace H := ifF H hb19
      refine Ok.skip ?_
      refine Ok.seq ?_
      obtain ⟨t5, h6, H⟩ := bindE H
      refine Ok.region (σ' := ⟨[(0, (L 2 e_api_Part a0)), (1, (.v (.int .i64 a1))), (5, (S t5))], []⟩) ?_ ?_
      · refine .cv (VOk.mv (d := (L 2 e_api_Part a0)) rfl rfl) rfl rfl ?_
        refine .cg (GOk.call rfl rfl cl11 rfl (part_Choose.ok h6) rfl) rfl rfl ?_
        refine .cv (VOk.asg (d := (S t5)) rfl rfl) rfl rfl ?_
        exact .done (.rf rfl rfl)
      refine Ok.seq ?_
      obtain ⟨t7, h8, H⟩ := bindE H
      refine Ok.region (σ' := ⟨[(1, (.v (.int .i64 a1))), (5, (S t5)), (6, (S t7.1)), (7, (.v (.int .i64 t7.2)))], []⟩) ?_ ?_
      · refine .cv (VOk.mv (d := (S t5)) rfl rfl) rfl rfl ?_
        refine .cv (VOk.mv (d := (L 2 e_api_Part a0)) rfl rfl) rfl rfl ?_
        refine .cg (GOk.call rfl rfl cl9 rfl (part_Print.ok h8) rfl) rfl rfl ?_
        refine .cv (VOk.mv (d := (.tup [(S t7.1), (.v (.int .i64 t7.2))])) rfl rfl) rfl rfl ?_
        refine .cv (VOk.extract (d := (S t7.1)) rfl rfl rfl) rfl rfl ?_
        refine .cv (VOk.extract (d := (.v (.int .i64 t7.2))) rfl rfl rfl) rfl rfl ?_
        refine .cv (VOk.asg (d := (S t7.1)) rfl rfl) rfl rfl ?_
        refine .cv (VOk.asg (d := (.v (.int .i64 t7.2))) rfl rfl) rfl rfl ?_
        exact .done (.rf rfl rfl)
      refine Ok.seq ?_
      refine Ok.seq ?_
      refine Ok.region (σ' := ⟨[(1, (.v (.int .i64 a1))), (5, (S t5)), (6, (S t7.1)), (25, (.v (.bool (t7.2 != 0))))], []⟩) ?_ ?_
      · refine .cv (VOk.mv (d := (.v (.int .i64 t7.2))) rfl rfl) rfl rfl ?_
        refine .cv (VOk.arith (op := .neq) (k := .i64) (a := t7.2) (b := 0) rfl rfl rfl rfl) rfl rfl ?_
        exact .done (.rf rfl rfl)
      refine Ok.test (b := (t7.2 != 0)) rfl (fun hb18 => ?_) (fun hb18 => ?_)
      · replace H := ifT H hb18
        refine Ok.seq ?_
        refine Ok.region (σ' := ⟨[(4, (.v (.bool true)))], []⟩) ?_ ?_
        · refine .cv (VOk.asg (d := (.v (.bool true))) rfl rfl) rfl rfl ?_
          exact .done (.rf rfl rfl)
        refine Ok.ret ?_
        obtain rfl := Option.some.inj H
        exact ⟨.inl rfl, ⟨_, (.cons (.tmp rfl) .nil), rfl⟩, trivial⟩
      · replace H := ifF H hb18
        refine Ok.skip ?_
        refine Ok.seq ?_
        refine Ok.region (σ' := ⟨[(1, (.v (.int .i64 a1))), (5, (S t5)), (6, (S t7.1)), (8, (.v (.int .i64 (IntKind.i64.wrap ((IntKind.i64.wrap ((t7.1.length : Int) - (t5.length : Int))) - 6)))))], []⟩) ?_ ?_
        · refine .cv (VOk.mv (d := (S t7.1)) rfl rfl) rfl rfl ?_
          refine .cv (VOk.lenStr (s := t7.1) rfl Tryd.underlying9 rfl) rfl rfl ?_
          refine .cv (VOk.mv (d := (S t5)) rfl rfl) rfl rfl ?_
          refine .cv (VOk.lenStr (s := t5) rfl Tryd.underlying9 rfl) rfl rfl ?_
          refine .cv (VOk.arith (op := .sub) (k := .i64) (a := (t7.1.length : Int)) (b := (t5.length : Int)) rfl rfl rfl rfl) rfl rfl ?_
          refine .cv (VOk.arith (op := .sub) (k := .i64) (a := (IntKind.i64.wrap ((t7.1.length : Int) - (t5.length : Int)))) (b := 6) rfl rfl rfl rfl) rfl rfl ?_
          refine .cv (VOk.asg (d := (.v (.int .i64 (IntKind.i64.wrap ((IntKind.i64.wrap ((t7.1.length : Int) - (t5.length : Int))) - 6))))) rfl rfl) rfl rfl ?_
          exact .done (.rf rfl rfl)
        refine Ok.meet (fun σ => ∃ (x8_9 : Int), σ = ⟨[(5, (S t5)), (6, (S t7.1)), (8, (.v (.int .i64 x8_9)))], []⟩ ∧ watchbilllaw08_PartCuts.j0 k t5 t7 x8_9 = some r) ?_ ?_
        · refine Ok.seq ?_
          refine Ok.region (σ' := ⟨[(1, (.v (.int .i64 a1))), (5, (S t5)), (6, (S t7.1)), (8, (.v (.int .i64 (IntKind.i64.wrap ((IntKind.i64.wrap ((t7.1.length : Int) - (t5.length : Int))) - 6))))), (38, (.v (.bool ((decide (a1 ≥ 0)) && (decide (a1 < (IntKind.i64.wrap ((IntKind.i64.wrap ((t7.1.length : Int) - (t5.length : Int))) - 6))))))))], []⟩) ?_ ?_
          · refine .cv (VOk.mv (d := (.v (.int .i64 a1))) rfl rfl) rfl rfl ?_
            refine .cv (VOk.arith (op := .geq) (k := .i64) (a := a1) (b := 0) rfl rfl rfl rfl) rfl rfl ?_
            refine .cv (VOk.mv (d := (.v (.bool (decide (a1 ≥ 0))))) rfl rfl) rfl rfl ?_
            refine OpsOk.consI rfl rfl rfl (.one rfl) rfl (fun hw15 => (VOk.g (VOk.mv (d := (.v (.int .i64 a1))) rfl rfl))) ?_
            refine OpsOk.consI rfl rfl rfl (.one rfl) rfl (fun hw15 => (VOk.g (VOk.mv (d := (.v (.int .i64 (IntKind.i64.wrap ((IntKind.i64.wrap ((t7.1.length : Int) - (t5.length : Int))) - 6))))) rfl rfl))) ?_
            refine OpsOk.consI rfl rfl rfl (.one rfl) rfl (fun hw15 => (GOk.fr (fr' := [(35, (.v (.int .i64 a1))), (36, (.v (.int .i64 (IntKind.i64.wrap ((IntKind.i64.wrap ((t7.1.length : Int) - (t5.length : Int))) - 6)))))]) ⟨DLe.of_eq (cT hw15).symm, DLe.of_eq (cT hw15).symm, trivial⟩ (VOk.g (VOk.arith (op := .lss) (k := .i64) (a := a1) (b := (IntKind.i64.wrap ((IntKind.i64.wrap ((t7.1.length : Int) - (t5.length : Int))) - 6))) rfl rfl rfl rfl)))) ?_
            refine .cv (VOk.to (VOk.pickI (b := (decide (a1 ≥ 0))) (p := (decide (a1 < (IntKind.i64.wrap ((IntKind.i64.wrap ((t7.1.length : Int) - (t5.length : Int))) - 6))))) (q := false) rfl rfl (fun hp16 => (cT (t_beq hp16))) (fun hp16 => rfl)) (pickAnd (decide (a1 ≥ 0)) (decide (a1 < (IntKind.i64.wrap ((IntKind.i64.wrap ((t7.1.length : Int) - (t5.length : Int))) - 6)))))) rfl rfl ?_
            exact .done (.rf rfl rfl)
          refine Ok.test (b := ((decide (a1 ≥ 0)) && (decide (a1 < (IntKind.i64.wrap ((IntKind.i64.wrap ((t7.1.length : Int) - (t5.length : Int))) - 6)))))) rfl (fun hb17 => ?_) (fun hb17 => ?_)
          · replace H := ifT H hb17
            refine Ok.region (σ' := ⟨[(5, (S t5)), (6, (S t7.1)), (8, (.v (.int .i64 a1)))], []⟩) ?_ ?_
            · refine .cv (VOk.mv (d := (.v (.int .i64 a1))) rfl rfl) rfl rfl ?_
              refine .cv (VOk.asg (d := (.v (.int .i64 a1))) rfl rfl) rfl rfl ?_
              exact .done (.rf rfl rfl)
            exact ⟨a1, rfl, H⟩
          · replace H := ifF H hb17
            refine Ok.le (σ' := ⟨[(5, (S t5)), (6, (S t7.1)), (8, (.v (.int .i64 (IntKind.i64.wrap ((IntKind.i64.wrap ((t7.1.length : Int) - (t5.length : Int))) - 6)))))], []⟩) (.rf rfl rfl) ?_
            refine Ok.skip ?_
            exact ⟨(IntKind.i64.wrap ((IntKind.i64.wrap ((t7.1.length : Int) - (t5.length : Int))) - 6)), rfl, H⟩
        · rintro σ ⟨x8_9, rfl, H⟩
          unfold watchbilllaw08_PartCuts.j0 at H
          refine Ok.seq ?_
          obtain ⟨c10, H⟩ := assertE H
          obtain ⟨t11, h12, H⟩ := bindE H
          refine Ok.region (σ' := ⟨[(9, (L 2 e_api_Part t11.1)), (10, (.v (.int .i64 t11.2)))], []⟩) ?_ ?_
          · refine .cv (VOk.mv (d := (S t7.1)) rfl rfl) rfl rfl ?_
            refine .cv (VOk.mv (d := (.v (.int .i64 x8_9))) rfl rfl) rfl rfl ?_
            refine .cv (VOk.sliceStr (s := t7.1) (l := 0) (h := x8_9) rfl Tryd.underlying9 rfl rfl rfl c10) rfl rfl ?_
            refine .cv (VOk.mv (d := (S t5)) rfl rfl) rfl rfl ?_
            refine .cg (GOk.call rfl rfl cl13 rfl (part_Parse.ok h12) rfl) rfl rfl ?_
            refine .cv (VOk.mv (d := (.tup [(L 2 e_api_Part t11.1), (.v (.int .i64 t11.2))])) rfl rfl) rfl rfl ?_
            refine .cv (VOk.extract (d := (L 2 e_api_Part t11.1)) rfl rfl rfl) rfl rfl ?_
            refine .cv (VOk.extract (d := (.v (.int .i64 t11.2))) rfl rfl rfl) rfl rfl ?_
            refine .cv (VOk.asg (d := (L 2 e_api_Part t11.1)) rfl rfl) rfl rfl ?_
            refine .cv (VOk.asg (d := (.v (.int .i64 t11.2))) rfl rfl) rfl rfl ?_
            exact .done (.rf rfl rfl)
          refine Ok.seq ?_
          refine Ok.region (σ' := ⟨[(4, (.v (.bool (((t11.1.length : Int) == 0) && (t11.2 != 0)))))], []⟩) ?_ ?_
          · refine .cv (VOk.mv (d := (L 2 e_api_Part t11.1)) rfl rfl) rfl rfl ?_
            refine .cv (VOk.lenL (e := e_api_Part) (xs := t11.1) rfl Tryd.underlying22 rfl) rfl rfl ?_
            refine .cv (VOk.arith (op := .eql) (k := .i64) (a := (t11.1.length : Int)) (b := 0) rfl rfl rfl rfl) rfl rfl ?_
            refine .cv (VOk.mv (d := (.v (.bool ((t11.1.length : Int) == 0)))) rfl rfl) rfl rfl ?_
            refine OpsOk.consI rfl rfl rfl (.one rfl) rfl (fun hw13 => (VOk.g (VOk.mv (d := (.v (.int .i64 t11.2))) rfl rfl))) ?_
            refine OpsOk.consI rfl rfl rfl (.one rfl) rfl (fun hw13 => (GOk.fr (fr' := [(52, (.v (.int .i64 t11.2)))]) ⟨DLe.of_eq (cT hw13).symm, trivial⟩ (VOk.g (VOk.arith (op := .neq) (k := .i64) (a := t11.2) (b := 0) rfl rfl rfl rfl)))) ?_
            refine .cv (VOk.to (VOk.pickI (b := ((t11.1.length : Int) == 0)) (p := (t11.2 != 0)) (q := false) rfl rfl (fun hp14 => (cT (t_beq hp14))) (fun hp14 => rfl)) (pickAnd ((t11.1.length : Int) == 0) (t11.2 != 0))) rfl rfl ?_
            refine .cv (VOk.asg (d := (.v (.bool (((t11.1.length : Int) == 0) && (t11.2 != 0))))) rfl rfl) rfl rfl ?_
            exact .done (.rf rfl rfl)
          refine Ok.ret ?_
          obtain rfl := Option.some.inj H
          exact ⟨.inl rfl, ⟨_, (.cons (.tmp rfl) .nil), rfl⟩, trivial⟩

/-! watchbill/watchbilllaw08.PartChooses: function 6 -/
def watchbilllaw08_PartChooses.l0 (k : Nat) (a0 : List T_api_Part) (t5 : Str) : Nat → Int → Int → Option Bool
  | 0, _, _ => none
  | m18 + 1, x4_14, x5_15 => (if (decide (x5_15 < (t5.length : Int))) = true then (if (0 : Int) ≤ x5_15 ∧ x5_15 < (t5.length : Int) then (if (((decide ((bt t5 x5_15) < 48)) == false) = true → (0 : Int) ≤ x5_15 ∧ x5_15 < (t5.length : Int)) then (if (((decide ((bt t5 x5_15) < 48)) || (decide ((bt t5 x5_15) > 57))) || (decide (x4_14 > 100000))) = true then some false else (if (0 : Int) ≤ x5_15 ∧ x5_15 < (t5.length : Int) then watchbilllaw08_PartChooses.l0 k a0 t5 m18 (IntKind.i64.wrap ((IntKind.i64.wrap ((IntKind.i64.wrap (x4_14 * 10)) + (IntKind.i64.wrap (bt t5 x5_15)))) - 48)) (IntKind.i64.wrap (x5_15 + 1)) else none)) else none) else none) else ((watchbillref08_Clashes k t5 a0).bind fun (t27 : Bool) => (((if ((((!t27) == true) && ((x4_14 == 1) == false)) && ((decide (x4_14 > 1)) == true)) = true then watchbillref08_Clashes k ([119, 98, 49] : Str) a0 else some default)).bind fun (t32 : Bool) => some ((!t27) && ((x4_14 == 1) || ((decide (x4_14 > 1)) && t32))))))
def watchbilllaw08_PartChooses (k : Nat) (a0 : List T_api_Part) : Option Bool := ((watchbilllaw08_awake k).bind fun (t1 : Bool) => (if (!t1) = true then some false else ((watchbilllaw08_Few k a0).bind fun (t3 : Bool) => (if (!t3) = true then some true else ((part_Choose k a0).bind fun (t5 : Str) => (if (((decide ((t5.length : Int) < 3)) == false) = true → (0 : Int) ≤ 0 ∧ (0 : Int) ≤ 2 ∧ 2 ≤ (t5.length : Int)) then (((if (((decide ((t5.length : Int) < 3)) || (!((sl t5 0 2) == ([119, 98] : Str)))) == false) = true then watchbillref08_May k t5 else some default)).bind fun (t11 : Bool) => (if (((decide ((t5.length : Int) < 3)) || (!((sl t5 0 2) == ([119, 98] : Str)))) || (!t11)) = true then some false else watchbilllaw08_PartChooses.l0 k a0 t5 k 0 2)) else none))))))
theorem watchbilllaw08_PartChooses.ok {k : Nat} {a0 : List T_api_Part} {r : Bool} (H : watchbilllaw08_PartChooses k a0 = some r) : Vx.Fn Tryd.prog 6 [(L 2 e_api_Part a0)] [] (.v (.bool r)) [] := by
  unfold watchbilllaw08_PartChooses at H
  refine Vx.Fn.of_okR Tryd.func6 rfl (Nat.le_of_ble_eq_true rfl) ?_
  refine Ok.seq ?_
  refine Ok.region (σ' := ⟨[(0, (L 2 e_api_Part a0))], []⟩) ?_ ?_
  · refine .cv (VOk.asg (d := (.v (.bool false))) rfl rfl) rfl rfl ?_
    exact .done (.rf rfl rfl)
  refine Ok.seq ?_
  refine Ok.seq ?_
  obtain ⟨t1, h2, H⟩ := bindE H
  refine Ok.region (σ' := ⟨[(0, (L 2 e_api_Part a0)), (7, (.v (.bool (!t1))))], []⟩) ?_ ?_
  · refine .cg (GOk.call rfl rfl cl7 rfl (watchbilllaw08_awake.ok h2) rfl) rfl rfl ?_
    refine .cv (VOk.not (b := t1) rfl rfl) rfl rfl ?_
    exact .done (.rf rfl rfl)
  refine Ok.test (b := (!t1)) rfl (fun hb40 => ?_) (fun hb40 => ?_)
  · replace H := ifT H hb40
    refine Ok.seq ?_
    refine Ok.region (σ' := ⟨[(2, (.v (.bool false)))], []⟩) ?_ ?_
    · refine .cv (VOk.asg (d := (.v (.bool false))) rfl rfl) rfl rfl ?_
      exact .done (.rf rfl rfl)
    refine Ok.ret ?_
    obtain rfl := Option.some.inj H
    exact ⟨.inl rfl, ⟨_, (.cons (.tmp rfl) .nil), rfl⟩, trivial⟩
  · replace H := ifF H hb40
    refine Ok.skip ?_
    refine Ok.seq ?_
    refine Ok.seq ?_
    obtain ⟨t3, h4, H⟩ := bindE H
    refine Ok.region (σ' := ⟨[(0, (L 2 e_api_Part a0)), (10, (.v (.bool (!t3))))], []⟩) ?_ ?_
    · refine .cv (VOk.mv (d := (L 2 e_api_Part a0)) rfl rfl) rfl rfl ?_
      refine .cg (GOk.call rfl rfl cl8 rfl (watchbilllaw08_Few.ok h4) rfl) rfl rfl ?_
      refine .cv (VOk.not (b := t3) rfl rfl) rfl rfl ?_
      exact .done (.rf rfl rfl)
    refine Ok.test (b := (!t3)) rfl (fun hb39 => ?_) (fun hb39 => ?_)
    · replace H := ifT H hb39
      refine Ok.seq ?_
      refine Ok.region (σ' := ⟨[(2, (.v (.bool true)))], []⟩) ?_ ?_
      · refine .cv (VOk.asg (d := (.v (.bool true))) rfl rfl) rfl rfl ?_
        exact .done (.rf rfl rfl)
      refine Ok.ret ?_
      obtain rfl := Option.some.inj H
      exact ⟨.inl rfl, ⟨_, (.cons (.tmp rfl) .nil), rfl⟩, trivial⟩
    · replace H := ifF H hb39
      refine Ok.skip ?_
      refine Ok.seq ?_
      obtain ⟨t5, h6, H⟩ := bindE H
      refine Ok.region (σ' := ⟨[(0, (L 2 e_api_Part a0)), (3, (S t5))], []⟩) ?_ ?_
      · refine .cv (VOk.mv (d := (L 2 e_api_Part a0)) rfl rfl) rfl rfl ?_
        refine .cg (GOk.call rfl rfl cl11 rfl (part_Choose.ok h6) rfl) rfl rfl ?_
        refine .cv (VOk.asg (d := (S t5)) rfl rfl) rfl rfl ?_
        exact .done (.rf rfl rfl)
      refine Ok.seq ?_
      refine Ok.seq ?_
      obtain ⟨c8, H⟩ := assertE H
      obtain ⟨t11, h12, H⟩ := bindE H
      refine Ok.region (σ' := ⟨[(0, (L 2 e_api_Part a0)), (3, (S t5)), (25, (.v (.bool (((decide ((t5.length : Int) < 3)) || (!((sl t5 0 2) == ([119, 98] : Str)))) || (!t11)))))], []⟩) ?_ ?_
      · refine .cv (VOk.mv (d := (S t5)) rfl rfl) rfl rfl ?_
        refine .cv (VOk.lenStr (s := t5) rfl Tryd.underlying9 rfl) rfl rfl ?_
        refine .cv (VOk.arith (op := .lss) (k := .i64) (a := (t5.length : Int)) (b := 3) rfl rfl rfl rfl) rfl rfl ?_
        refine .cv (VOk.mv (d := (.v (.bool (decide ((t5.length : Int) < 3))))) rfl rfl) rfl rfl ?_
        refine OpsOk.consI rfl rfl rfl (.one rfl) rfl (fun hw7 => (VOk.g (VOk.mv (d := (S t5)) rfl rfl))) ?_
        refine OpsOk.consI rfl rfl rfl (.one rfl) rfl (fun hw7 => (GOk.fr (fr' := [(17, (S t5))]) ⟨DLe.of_eq (cT hw7).symm, trivial⟩ (VOk.g (VOk.sliceStr (s := t5) (l := 0) (h := 2) rfl Tryd.underlying9 rfl rfl rfl (c8 hw7))))) ?_
        refine OpsOk.consI rfl rfl rfl (.one rfl) rfl (fun hw7 => (GOk.fr (fr' := [(18, (S (sl t5 0 2)))]) ⟨DLe.of_eq (cT hw7).symm, trivial⟩ (VOk.g (VOk.strOp (op := .neq) (a := (sl t5 0 2)) (b := ([119, 98] : Str)) rfl rfl rfl rfl)))) ?_
        refine .cv (VOk.to (VOk.pickI (b := (decide ((t5.length : Int) < 3))) (p := true) (q := (!((sl t5 0 2) == ([119, 98] : Str)))) rfl rfl (fun hp9 => rfl) (fun hp9 => (cT (f_beq hp9)))) (pickOr (decide ((t5.length : Int) < 3)) (!((sl t5 0 2) == ([119, 98] : Str))))) rfl rfl ?_
        refine .cv (VOk.mv (d := (.v (.bool ((decide ((t5.length : Int) < 3)) || (!((sl t5 0 2) == ([119, 98] : Str))))))) rfl rfl) rfl rfl ?_
        refine OpsOk.consI rfl rfl rfl (.one rfl) rfl (fun hw10 => (VOk.g (VOk.mv (d := (S t5)) rfl rfl))) ?_
        refine OpsOk.consI rfl rfl rfl (.one rfl) rfl (fun hw10 => (GOk.fr (fr' := [(22, (S t5))]) ⟨DLe.of_eq (cT hw10).symm, trivial⟩ (GOk.call rfl rfl cl16 rfl (watchbillref08_May.ok (ifT h12 hw10)) rfl))) ?_
        refine OpsOk.consI rfl rfl rfl (.one rfl) rfl (fun hw10 => (GOk.fr (fr' := [(23, (.v (.bool t11)))]) ⟨DLe.of_eq (cT hw10).symm, trivial⟩ (VOk.g (VOk.not (b := t11) rfl rfl)))) ?_
        refine .cv (VOk.to (VOk.pickI (b := ((decide ((t5.length : Int) < 3)) || (!((sl t5 0 2) == ([119, 98] : Str))))) (p := true) (q := (!t11)) rfl rfl (fun hp13 => rfl) (fun hp13 => (cT (f_beq hp13)))) (pickOr ((decide ((t5.length : Int) < 3)) || (!((sl t5 0 2) == ([119, 98] : Str)))) (!t11))) rfl rfl ?_
        exact .done (.rf rfl rfl)
      refine Ok.test (b := (((decide ((t5.length : Int) < 3)) || (!((sl t5 0 2) == ([119, 98] : Str)))) || (!t11))) rfl (fun hb38 => ?_) (fun hb38 => ?_)
      · replace H := ifT H hb38
        refine Ok.seq ?_
        refine Ok.region (σ' := ⟨[(2, (.v (.bool false)))], []⟩) ?_ ?_
        · refine .cv (VOk.asg (d := (.v (.bool false))) rfl rfl) rfl rfl ?_
          exact .done (.rf rfl rfl)
        refine Ok.ret ?_
        obtain rfl := Option.some.inj H
        exact ⟨.inl rfl, ⟨_, (.cons (.tmp rfl) .nil), rfl⟩, trivial⟩
      · replace H := ifF H hb38
        refine Ok.skip ?_
        refine Ok.seq ?_
        refine Ok.region (σ' := ⟨[(0, (L 2 e_api_Part a0)), (3, (S t5)), (4, (.v (.int .i64 0)))], []⟩) ?_ ?_
        · refine .cv (VOk.asg (d := (.v (.int .i64 0))) rfl rfl) rfl rfl ?_
          exact .done (.rf rfl rfl)
        refine Ok.seq ?_
        refine Ok.seq ?_
        refine Ok.region (σ' := ⟨[(0, (L 2 e_api_Part a0)), (3, (S t5)), (4, (.v (.int .i64 0))), (5, (.v (.int .i64 2)))], []⟩) ?_ ?_
        · refine .cv (VOk.asg (d := (.v (.int .i64 2))) rfl rfl) rfl rfl ?_
          exact .done (.rf rfl rfl)
        refine Ok.block ?_
        refine Ok.le (σ' := ⟨[(0, (L 2 e_api_Part a0)), (3, (S t5)), (4, (.v (.int .i64 0))), (5, (.v (.int .i64 2)))], []⟩) (.rf rfl rfl) ?_
        refine Ok.loop (fun m18 σ => ∃ (x4_14 : Int) (x5_15 : Int), σ = ⟨[(0, (L 2 e_api_Part a0)), (3, (S t5)), (4, (.v (.int .i64 x4_14))), (5, (.v (.int .i64 x5_15)))], []⟩ ∧ watchbilllaw08_PartChooses.l0 k a0 t5 m18 x4_14 x5_15 = some r) k ⟨0, 2, rfl, H⟩ ?_
        rintro m18 σ ⟨x4_14, x5_15, rfl, H⟩
        cases m18 with
        | zero => exact absurd H (by simp [watchbilllaw08_PartChooses.l0])
        | succ m18 =>
          unfold watchbilllaw08_PartChooses.l0 at H
          refine Ok.seq ?_
          refine Ok.seq ?_
          refine Ok.region (σ' := ⟨[(0, (L 2 e_api_Part a0)), (3, (S t5)), (4, (.v (.int .i64 x4_14))), (5, (.v (.int .i64 x5_15))), (29, (.v (.bool (decide (x5_15 < (t5.length : Int))))))], []⟩) ?_ ?_
          · refine .cv (VOk.mv (d := (.v (.int .i64 x5_15))) rfl rfl) rfl rfl ?_
            refine .cv (VOk.mv (d := (S t5)) rfl rfl) rfl rfl ?_
            refine .cv (VOk.lenStr (s := t5) rfl Tryd.underlying9 rfl) rfl rfl ?_
            refine .cv (VOk.arith (op := .lss) (k := .i64) (a := x5_15) (b := (t5.length : Int)) rfl rfl rfl rfl) rfl rfl ?_
            exact .done (.rf rfl rfl)
          refine Ok.test (b := (decide (x5_15 < (t5.length : Int)))) rfl (fun hb37 => ?_) (fun hb37 => ?_)
          · replace H := ifT H hb37
            refine Ok.skip ?_
            refine Ok.seq ?_
            refine Ok.block ?_
            refine Ok.seq ?_
            refine Ok.seq ?_
            obtain ⟨c19, H⟩ := assertE H
            obtain ⟨c21, H⟩ := assertE H
            refine Ok.region (σ' := ⟨[(0, (L 2 e_api_Part a0)), (3, (S t5)), (4, (.v (.int .i64 x4_14))), (5, (.v (.int .i64 x5_15))), (45, (.v (.bool (((decide ((bt t5 x5_15) < 48)) || (decide ((bt t5 x5_15) > 57))) || (decide (x4_14 > 100000))))))], []⟩) ?_ ?_
            · refine .cv (VOk.mv (d := (S t5)) rfl rfl) rfl rfl ?_
              refine .cv (VOk.mv (d := (.v (.int .i64 x5_15))) rfl rfl) rfl rfl ?_
              refine .cv (VOk.indexStr (s := t5) (i := x5_15) rfl Tryd.underlying9 rfl rfl c19) rfl rfl ?_
              refine .cv (VOk.arith (op := .lss) (k := .u8) (a := (bt t5 x5_15)) (b := 48) rfl rfl rfl rfl) rfl rfl ?_
              refine .cv (VOk.mv (d := (.v (.bool (decide ((bt t5 x5_15) < 48))))) rfl rfl) rfl rfl ?_
              refine OpsOk.consI rfl rfl rfl (.one rfl) rfl (fun hw20 => (VOk.g (VOk.mv (d := (S t5)) rfl rfl))) ?_
              refine OpsOk.consI rfl rfl rfl (.one rfl) rfl (fun hw20 => (VOk.g (VOk.mv (d := (.v (.int .i64 x5_15))) rfl rfl))) ?_
              refine OpsOk.consI rfl rfl rfl (.one rfl) rfl (fun hw20 => (GOk.fr (fr' := [(37, (S t5)), (38, (.v (.int .i64 x5_15)))]) ⟨DLe.of_eq (cT hw20).symm, DLe.of_eq (cT hw20).symm, trivial⟩ (VOk.g (VOk.indexStr (s := t5) (i := x5_15) rfl Tryd.underlying9 rfl rfl (c21 hw20))))) ?_
              refine OpsOk.consI rfl rfl rfl (.one rfl) rfl (fun hw20 => (GOk.fr (fr' := [(39, (.v (.int .u8 (bt t5 x5_15))))]) ⟨DLe.of_eq (cT hw20).symm, trivial⟩ (VOk.g (VOk.arith (op := .gtr) (k := .u8) (a := (bt t5 x5_15)) (b := 57) rfl rfl rfl rfl)))) ?_
              refine .cv (VOk.to (VOk.pickI (b := (decide ((bt t5 x5_15) < 48))) (p := true) (q := (decide ((bt t5 x5_15) > 57))) rfl rfl (fun hp22 => rfl) (fun hp22 => (cT (f_beq hp22)))) (pickOr (decide ((bt t5 x5_15) < 48)) (decide ((bt t5 x5_15) > 57)))) rfl rfl ?_
              refine .cv (VOk.mv (d := (.v (.bool ((decide ((bt t5 x5_15) < 48)) || (decide ((bt t5 x5_15) > 57)))))) rfl rfl) rfl rfl ?_
              refine OpsOk.consI rfl rfl rfl (.one rfl) rfl (fun hw23 => (VOk.g (VOk.mv (d := (.v (.int .i64 x4_14))) rfl rfl))) ?_
              refine OpsOk.consI rfl rfl rfl (.one rfl) rfl (fun hw23 => (GOk.fr (fr' := [(43, (.v (.int .i64 x4_14)))]) ⟨DLe.of_eq (cT hw23).symm, trivial⟩ (VOk.g (VOk.arith (op := .gtr) (k := .i64) (a := x4_14) (b := 100000) rfl rfl rfl rfl)))) ?_
              refine .cv (VOk.to (VOk.pickI (b := ((decide ((bt t5 x5_15) < 48)) || (decide ((bt t5 x5_15) > 57)))) (p := true) (q := (decide (x4_14 > 100000))) rfl rfl (fun hp24 => rfl) (fun hp24 => (cT (f_beq hp24)))) (pickOr ((decide ((bt t5 x5_15) < 48)) || (decide ((bt t5 x5_15) > 57))) (decide (x4_14 > 100000)))) rfl rfl ?_
              exact .done (.rf rfl rfl)
            refine Ok.test (b := (((decide ((bt t5 x5_15) < 48)) || (decide ((bt t5 x5_15) > 57))) || (decide (x4_14 > 100000)))) rfl (fun hb26 => ?_) (fun hb26 => ?_)
            · replace H := ifT H hb26
              refine Ok.seq ?_
              refine Ok.region (σ' := ⟨[(2, (.v (.bool false)))], []⟩) ?_ ?_
              · refine .cv (VOk.asg (d := (.v (.bool false))) rfl rfl) rfl rfl ?_
                exact .done (.rf rfl rfl)
              refine Ok.ret ?_
              obtain rfl := Option.some.inj H
              exact ⟨.inl rfl, ⟨_, (.cons (.tmp rfl) .nil), rfl⟩, trivial⟩
            · replace H := ifF H hb26
              refine Ok.skip ?_
              obtain ⟨c25, H⟩ := assertE H
              refine Ok.region (σ' := ⟨[(0, (L 2 e_api_Part a0)), (3, (S t5)), (4, (.v (.int .i64 (IntKind.i64.wrap ((IntKind.i64.wrap ((IntKind.i64.wrap (x4_14 * 10)) + (IntKind.i64.wrap (bt t5 x5_15)))) - 48))))), (5, (.v (.int .i64 x5_15)))], []⟩) ?_ ?_
              · refine .cv (VOk.mv (d := (.v (.int .i64 x4_14))) rfl rfl) rfl rfl ?_
                refine .cv (VOk.arith (op := .mul) (k := .i64) (a := x4_14) (b := 10) rfl rfl rfl rfl) rfl rfl ?_
                refine .cv (VOk.mv (d := (S t5)) rfl rfl) rfl rfl ?_
                refine .cv (VOk.mv (d := (.v (.int .i64 x5_15))) rfl rfl) rfl rfl ?_
                refine .cv (VOk.indexStr (s := t5) (i := x5_15) rfl Tryd.underlying9 rfl rfl c25) rfl rfl ?_
                refine .cv (VOk.convInt (a := (bt t5 x5_15)) rfl (by rw [Tryd.underlying5]; rfl) Tryd.underlying3 rfl) rfl rfl ?_
                refine .cv (VOk.arith (op := .add) (k := .i64) (a := (IntKind.i64.wrap (x4_14 * 10))) (b := (IntKind.i64.wrap (bt t5 x5_15))) rfl rfl rfl rfl) rfl rfl ?_
                refine .cv (VOk.arith (op := .sub) (k := .i64) (a := (IntKind.i64.wrap ((IntKind.i64.wrap (x4_14 * 10)) + (IntKind.i64.wrap (bt t5 x5_15))))) (b := 48) rfl rfl rfl rfl) rfl rfl ?_
                refine .cv (VOk.asg (d := (.v (.int .i64 (IntKind.i64.wrap ((IntKind.i64.wrap ((IntKind.i64.wrap (x4_14 * 10)) + (IntKind.i64.wrap (bt t5 x5_15)))) - 48))))) rfl rfl) rfl rfl ?_
                exact .done (.rf rfl rfl)
              refine Ok.region (σ' := ⟨[(0, (L 2 e_api_Part a0)), (3, (S t5)), (4, (.v (.int .i64 (IntKind.i64.wrap ((IntKind.i64.wrap ((IntKind.i64.wrap (x4_14 * 10)) + (IntKind.i64.wrap (bt t5 x5_15)))) - 48))))), (5, (.v (.int .i64 (IntKind.i64.wrap (x5_15 + 1)))))], []⟩) ?_ ?_
              · refine .cv (VOk.mv (d := (.v (.int .i64 x5_15))) rfl rfl) rfl rfl ?_
                refine .cv (VOk.arith (op := .add) (k := .i64) (a := x5_15) (b := 1) rfl rfl rfl rfl) rfl rfl ?_
                refine .cv (VOk.asg (d := (.v (.int .i64 (IntKind.i64.wrap (x5_15 + 1))))) rfl rfl) rfl rfl ?_
                exact .done (.rf rfl rfl)
              exact ⟨m18, Nat.lt_succ_self m18, (IntKind.i64.wrap ((IntKind.i64.wrap ((IntKind.i64.wrap (x4_14 * 10)) + (IntKind.i64.wrap (bt t5 x5_15)))) - 48)), (IntKind.i64.wrap (x5_15 + 1)), rfl, H⟩
          · replace H := ifF H hb37
            refine Ok.exit ?_
            refine Ok.seq ?_
            obtain ⟨t27, h28, H⟩ := bindE H
            obtain ⟨t32, h33, H⟩ := bindE H
            refine Ok.region (σ' := ⟨[(2, (.v (.bool ((!t27) && ((x4_14 == 1) || ((decide (x4_14 > 1)) && t32))))))], []⟩) ?_ ?_
            · refine .cv (VOk.mv (d := (S t5)) rfl rfl) rfl rfl ?_
              refine .cv (VOk.mv (d := (L 2 e_api_Part a0)) rfl rfl) rfl rfl ?_
              refine .cg (GOk.call rfl rfl cl17 rfl (watchbillref08_Clashes.ok h28) rfl) rfl rfl ?_
              refine .cv (VOk.not (b := t27) rfl rfl) rfl rfl ?_
              refine .cv (VOk.mv (d := (.v (.bool (!t27)))) rfl rfl) rfl rfl ?_
              refine OpsOk.consI rfl rfl rfl (.one rfl) rfl (fun hw29 => (VOk.g (VOk.mv (d := (.v (.int .i64 x4_14))) rfl rfl))) ?_
              refine OpsOk.consI rfl rfl rfl (.one rfl) rfl (fun hw29 => (GOk.fr (fr' := [(59, (.v (.int .i64 x4_14)))]) ⟨DLe.of_eq (cT hw29).symm, trivial⟩ (VOk.g (VOk.arith (op := .eql) (k := .i64) (a := x4_14) (b := 1) rfl rfl rfl rfl)))) ?_
              refine OpsOk.consI rfl rfl rfl (.one rfl) rfl (fun hw29 => (GOk.fr (fr' := [(60, (.v (.bool (x4_14 == 1))))]) ⟨DLe.of_eq (cT hw29).symm, trivial⟩ (VOk.g (VOk.mv (d := (.v (.bool (x4_14 == 1)))) rfl rfl)))) ?_
              refine OpsOk.consI rfl rfl rfl (.two rfl) rfl (fun hw30 => (VOk.g (VOk.mv (d := (.v (.int .i64 x4_14))) rfl rfl))) ?_
              refine OpsOk.consI rfl rfl rfl (.two rfl) rfl (fun hw30 => (GOk.fr (fr' := [(62, (.v (.int .i64 x4_14)))]) ⟨DLe.of_eq (cT hw30).symm, trivial⟩ (VOk.g (VOk.arith (op := .gtr) (k := .i64) (a := x4_14) (b := 1) rfl rfl rfl rfl)))) ?_
              refine OpsOk.consI rfl rfl rfl (.two rfl) rfl (fun hw30 => (GOk.fr (fr' := [(63, (.v (.bool (decide (x4_14 > 1)))))]) ⟨DLe.of_eq (cT hw30).symm, trivial⟩ (VOk.g (VOk.mv (d := (.v (.bool (decide (x4_14 > 1))))) rfl rfl)))) ?_
              refine OpsOk.consI rfl rfl rfl (.two rfl) rfl (fun hw31 => (VOk.g (VOk.mv (d := (L 2 e_api_Part a0)) rfl rfl))) ?_
              refine OpsOk.consI rfl rfl rfl (.two rfl) rfl (fun hw31 => (GOk.fr (fr' := [(65, (L 2 e_api_Part a0))]) ⟨DLe.of_eq (cT hw31).symm, trivial⟩ (GOk.call rfl rfl cl17 rfl (watchbillref08_Clashes.ok (ifT h33 hw31)) rfl))) ?_
              refine OpsOk.consI rfl rfl rfl (.two rfl) rfl (fun hw30 => (VOk.g (VOk.to (VOk.pickI (b := (decide (x4_14 > 1))) (p := t32) (q := false) rfl (cT hw30) (fun hp34 => (cT (and_i hw30 (t_beq hp34)))) (fun hp34 => rfl)) (pickAnd (decide (x4_14 > 1)) t32)))) ?_
              refine OpsOk.consI rfl rfl rfl (.one rfl) rfl (fun hw29 => (VOk.g (VOk.to (VOk.pickI (b := (x4_14 == 1)) (p := true) (q := ((decide (x4_14 > 1)) && t32)) rfl (cT hw29) (fun hp35 => rfl) (fun hp35 => (cT (and_i hw29 (f_beq hp35))))) (pickOr (x4_14 == 1) ((decide (x4_14 > 1)) && t32))))) ?_
              refine .cv (VOk.to (VOk.pickI (b := (!t27)) (p := ((x4_14 == 1) || ((decide (x4_14 > 1)) && t32))) (q := false) rfl rfl (fun hp36 => (cT (t_beq hp36))) (fun hp36 => rfl)) (pickAnd (!t27) ((x4_14 == 1) || ((decide (x4_14 > 1)) && t32)))) rfl rfl ?_
              refine .cv (VOk.asg (d := (.v (.bool ((!t27) && ((x4_14 == 1) || ((decide (x4_14 > 1)) && t32)))))) rfl rfl) rfl rfl ?_
              exact .done (.rf rfl rfl)
            refine Ok.ret ?_
            obtain rfl := Option.some.inj H
            exact ⟨.inl rfl, ⟨_, (.cons (.tmp rfl) .nil), rfl⟩, trivial⟩

end Go.Proofs.YtccgkcejfpbdpaaDoor.Sh
