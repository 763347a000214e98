import Derived.Test.YtpdhjbjkakpejaaDoorProg
import Derived.Test.YtpdhjbjkakpejaaDoorSha
namespace Go.Proofs.YtpdhjbjkakpejaaDoor.Sh
open Go Go.RowKit Go.Proofs.Vx
set_option linter.unusedVariables false

set_option maxRecDepth 100000
set_option maxHeartbeats 1000000
/-! watchbill/field.ParseType: function 21 -/
def field_ParseType.l0 (k : Nat) (a0 : Str) (t3 : Str × T_field_scanner) (t7 : Str × T_field_scanner) : Nat → Str → Int → List T_api_Field → Option (Str × (List T_api_Field) × Int)
  | 0, _, _, _ => none
  | m19 + 1, y15_0_14, y15_1_15, y3_13 => ((field_scanner_blanks k (T_field_scanner.mk y15_0_14 y15_1_15)).bind fun (t20 : T_field_scanner) => (if (t20.At_ == (a0.length : Int)) = true then (if t3.1.length + ([47] : Str).length ≤ 9223372036854775807 then (if (t3.1 ++ ([47] : Str)).length + t7.1.length ≤ 9223372036854775807 then ((field_lower k ((t3.1 ++ ([47] : Str)) ++ t7.1)).bind fun (t24 : Str) => some (t24, y3_13, 0)) else none) else none) else ((field_scanner_sign t20 59).bind fun (t26 : Bool × T_field_scanner) => (if (!t26.1) = true then some (([] : Str), ([] : List T_api_Field), 4) else ((field_scanner_param k t26.2).bind fun (t28 : T_api_Field × Bool × T_field_scanner) => ((field_Param k y3_13 t28.1.Name).bind fun (t30 : Str × Bool) => (if ((!t28.2.1) || t30.2) = true then some (([] : Str), ([] : List T_api_Field), 4) else (if (y3_13.length + ([t28.1] : List T_api_Field).length) * 32 ≤ 140737488355328 then field_ParseType.l0 k a0 t3 t7 m19 t28.2.2.S_ t28.2.2.At_ (y3_13 ++ ([t28.1] : List T_api_Field)) else none))))))))
def field_ParseType (k : Nat) (a0 : Str) : Option (Str × (List T_api_Field) × Int) := ((field_scanner_blanks k (T_field_scanner.mk a0 0)).bind fun (t1 : T_field_scanner) => ((field_scanner_token k t1).bind fun (t3 : Str × T_field_scanner) => ((field_scanner_sign t3.2 47).bind fun (t5 : Bool × T_field_scanner) => ((field_scanner_token k t5.2).bind fun (t7 : Str × T_field_scanner) => (if (((t3.1 == ([] : Str)) || (!t5.1)) || (t7.1 == ([] : Str))) = true then some (([] : Str), ([] : List T_api_Field), 31) else field_ParseType.l0 k a0 t3 t7 k t7.2.S_ t7.2.At_ ([] : List T_api_Field))))))
theorem field_ParseType.ok {k : Nat} {a0 : Str} {r : Str × (List T_api_Field) × Int} (H : field_ParseType k a0 = some r) : Vx.Fn Tryd.prog 21 [(S a0)] [] (.tup [(S r.1), (L 2 e_api_Field r.2.1), (.v (.int .i64 r.2.2))]) [] := by
  unfold field_ParseType at H
  refine Vx.Fn.of_okR Tryd.func21 rfl (Nat.le_of_ble_eq_true rfl) ?_
  refine Ok.seq ?_
  refine Ok.region (σ' := ⟨[(0, (S a0)), (3, (.sref 3))], [(3, (.rows true 54 2 (([] : List T_api_Field).map e_api_Field)))]⟩) ?_ ?_
  · refine .cv (VOk.asg (d := (S ([] : Str))) rfl rfl) rfl rfl ?_
    refine OpsOk.cons rfl (.nilT 3 54 2 (.inl rfl) rfl rfl) ?_
    refine .cv (VOk.asg (d := (.v (.int .i64 0))) rfl rfl) rfl rfl ?_
    exact .done (.rf rfl rfl)
  refine Ok.seq ?_
  refine Ok.region (σ' := ⟨[(0, (S a0)), (3, (.sref 3)), (5, (.bref 15 0))], [(3, (.rows true 54 2 (([] : List T_api_Field).map e_api_Field))), (15, (.box .ex [(S ((T_field_scanner.mk a0 0).S_)), (.v (.int .i64 ((T_field_scanner.mk a0 0).At_)))]))]⟩) ?_ ?_
  · refine .cv (VOk.mv (d := (S a0)) rfl rfl) rfl rfl ?_
    refine .cv (VOk.to (d' := (.agg (e_field_scanner (T_field_scanner.mk a0 0)))) (.build [none, none] [(0, 1), (1, 1)] rfl Tryd.underlying71 (fa71 Tryd.underlying71) zo71 rfl rfl) rfl) rfl rfl ?_
    refine OpsOk.cons rfl (OpOk.box 15 (cells := [(S ((T_field_scanner.mk a0 0).S_)), (.v (.int .i64 ((T_field_scanner.mk a0 0).At_)))]) rfl rfl rfl rfl) ?_
    refine .cv (VOk.asg (d := (.bref 15 0)) rfl rfl) rfl rfl ?_
    exact .done (.rf rfl rfl)
  refine Ok.seq ?_
  obtain ⟨t1, h2, H⟩ := bindE H
  refine Ok.region (σ' := ⟨[(0, (S a0)), (3, (.sref 3)), (5, (.bref 15 0))], [(3, (.rows true 54 2 (([] : List T_api_Field).map e_api_Field))), (15, (.box .ex [(S t1.S_), (.v (.int .i64 t1.At_))]))]⟩) ?_ ?_
  · refine .cv (VOk.mv (d := (.bref 15 0)) rfl rfl) rfl rfl ?_
    refine OpsOk.cons rfl (OpOk.callB (e := .ex) (ds0 := [(.bref 15 0)]) 15 rfl (.same _) cl45 (fun b => ((field_scanner_blanks.ok h2) b)) rfl ⟨.same _, trivial⟩ rfl rfl rfl rfl rfl) ?_
    exact .done (.rf rfl rfl)
  refine Ok.seq ?_
  obtain ⟨t3, h4, H⟩ := bindE H
  refine Ok.region (σ' := ⟨[(0, (S a0)), (3, (.sref 3)), (5, (.bref 15 0)), (6, (S t3.1))], [(3, (.rows true 54 2 (([] : List T_api_Field).map e_api_Field))), (15, (.box .ex [(S t3.2.S_), (.v (.int .i64 t3.2.At_))]))]⟩) ?_ ?_
  · refine .cv (VOk.mv (d := (.bref 15 0)) rfl rfl) rfl rfl ?_
    refine OpsOk.cons rfl (OpOk.callB (e := .ex) (ds0 := [(.bref 15 0)]) 15 rfl (.same _) cl46 (fun b => ((field_scanner_token.ok h4) b)) rfl ⟨.same _, trivial⟩ rfl rfl rfl rfl rfl) ?_
    refine .cv (VOk.asg (d := (S t3.1)) rfl rfl) rfl rfl ?_
    exact .done (.rf rfl rfl)
  refine Ok.seq ?_
  obtain ⟨t5, h6, H⟩ := bindE H
  refine Ok.region (σ' := ⟨[(0, (S a0)), (3, (.sref 3)), (5, (.bref 15 0)), (6, (S t3.1)), (7, (.v (.bool t5.1)))], [(3, (.rows true 54 2 (([] : List T_api_Field).map e_api_Field))), (15, (.box .ex [(S t5.2.S_), (.v (.int .i64 t5.2.At_))]))]⟩) ?_ ?_
  · refine .cv (VOk.mv (d := (.bref 15 0)) rfl rfl) rfl rfl ?_
    refine OpsOk.cons rfl (OpOk.callB (e := .ex) (ds0 := [(.bref 15 0), (.v (.int .u8 47))]) 15 rfl (.same _) cl47 (fun b => ((field_scanner_sign.ok h6) b)) rfl ⟨.same _, .same _, trivial⟩ rfl rfl rfl rfl rfl) ?_
    refine .cv (VOk.asg (d := (.v (.bool t5.1))) rfl rfl) rfl rfl ?_
    exact .done (.rf rfl rfl)
  refine Ok.seq ?_
  obtain ⟨t7, h8, H⟩ := bindE H
  refine Ok.region (σ' := ⟨[(0, (S a0)), (3, (.sref 3)), (5, (.bref 15 0)), (6, (S t3.1)), (7, (.v (.bool t5.1))), (8, (S t7.1))], [(3, (.rows true 54 2 (([] : List T_api_Field).map e_api_Field))), (15, (.box .ex [(S t7.2.S_), (.v (.int .i64 t7.2.At_))]))]⟩) ?_ ?_
  · refine .cv (VOk.mv (d := (.bref 15 0)) rfl rfl) rfl rfl ?_
    refine OpsOk.cons rfl (OpOk.callB (e := .ex) (ds0 := [(.bref 15 0)]) 15 rfl (.same _) cl46 (fun b => ((field_scanner_token.ok h8) b)) rfl ⟨.same _, trivial⟩ rfl rfl rfl rfl rfl) ?_
    refine .cv (VOk.asg (d := (S t7.1)) rfl rfl) rfl rfl ?_
    exact .done (.rf rfl rfl)
  refine Ok.seq ?_
  refine Ok.seq ?_
  refine Ok.region (σ' := ⟨[(0, (S a0)), (3, (.sref 3)), (5, (.bref 15 0)), (6, (S t3.1)), (8, (S t7.1)), (33, (.v (.bool (((t3.1 == ([] : Str)) || (!t5.1)) || (t7.1 == ([] : Str))))))], [(3, (.rows true 54 2 (([] : List T_api_Field).map e_api_Field))), (15, (.box .ex [(S t7.2.S_), (.v (.int .i64 t7.2.At_))]))]⟩) ?_ ?_
  · refine .cv (VOk.mv (d := (S t3.1)) rfl rfl) rfl rfl ?_
    refine .cv (VOk.strOp (op := .eql) (a := t3.1) (b := ([] : Str)) rfl rfl rfl rfl) rfl rfl ?_
    refine .cv (VOk.mv (d := (.v (.bool (t3.1 == ([] : Str))))) rfl rfl) rfl rfl ?_
    refine OpsOk.consI rfl rfl rfl (.one rfl) rfl (fun hw9 => (VOk.g (VOk.mv (d := (.v (.bool t5.1))) rfl rfl))) ?_
    refine OpsOk.consI rfl rfl rfl (.one rfl) rfl (fun hw9 => (GOk.fr (fr' := [(27, (.v (.bool t5.1)))]) ⟨DLe.of_eq (cT hw9).symm, trivial⟩ (VOk.g (VOk.not (b := t5.1) rfl rfl)))) ?_
    refine .cv (VOk.to (VOk.pickI (b := (t3.1 == ([] : Str))) (p := true) (q := (!t5.1)) rfl rfl (fun hp10 => rfl) (fun hp10 => (cT (f_beq hp10)))) (pickOr (t3.1 == ([] : Str)) (!t5.1))) rfl rfl ?_
    refine .cv (VOk.mv (d := (.v (.bool ((t3.1 == ([] : Str)) || (!t5.1))))) rfl rfl) rfl rfl ?_
    refine OpsOk.consI rfl rfl rfl (.one rfl) rfl (fun hw11 => (VOk.g (VOk.mv (d := (S t7.1)) rfl rfl))) ?_
    refine OpsOk.consI rfl rfl rfl (.one rfl) rfl (fun hw11 => (GOk.fr (fr' := [(31, (S t7.1))]) ⟨DLe.of_eq (cT hw11).symm, trivial⟩ (VOk.g (VOk.strOp (op := .eql) (a := t7.1) (b := ([] : Str)) rfl rfl rfl rfl)))) ?_
    refine .cv (VOk.to (VOk.pickI (b := ((t3.1 == ([] : Str)) || (!t5.1))) (p := true) (q := (t7.1 == ([] : Str))) rfl rfl (fun hp12 => rfl) (fun hp12 => (cT (f_beq hp12)))) (pickOr ((t3.1 == ([] : Str)) || (!t5.1)) (t7.1 == ([] : Str)))) rfl rfl ?_
    exact .done (.rf rfl rfl)
  refine Ok.test (b := (((t3.1 == ([] : Str)) || (!t5.1)) || (t7.1 == ([] : Str)))) rfl (fun hb38 => ?_) (fun hb38 => ?_)
  · replace H := ifT H hb38
    refine Ok.seq ?_
    refine Ok.region (σ' := ⟨[(2, (S ([] : Str))), (3, (.sref 3)), (4, (.v (.int .i64 31)))], [(3, (.rows true 54 2 (([] : List T_api_Field).map e_api_Field)))]⟩) ?_ ?_
    · refine .cv (VOk.asg (d := (S ([] : Str))) rfl rfl) rfl rfl ?_
      refine OpsOk.cons rfl (.nilT 3 54 2 (.inl rfl) rfl rfl) ?_
      refine .cv (VOk.asg (d := (.v (.int .i64 31))) rfl rfl) rfl rfl ?_
      exact .done (.rf rfl rfl)
    refine Ok.frzL 3 (e := e_api_Field) (xs := ([] : List T_api_Field)) rfl ?_
    refine Ok.ret ?_
    obtain rfl := Option.some.inj H
    exact ⟨.inl rfl, ⟨_, (.cons (.tmp rfl) (.cons (.tmp rfl) (.cons (.tmp rfl) .nil))), rfl⟩, trivial⟩
  · replace H := ifF H hb38
    refine Ok.skip ?_
    refine Ok.block ?_
    refine Ok.le (σ' := ⟨[(0, (S a0)), (3, (.sref 3)), (5, (.bref 15 0)), (6, (S t3.1)), (8, (S t7.1))], [(3, (.rows true 54 2 (([] : List T_api_Field).map e_api_Field))), (15, (.box .ex [(S t7.2.S_), (.v (.int .i64 t7.2.At_))]))]⟩) (.rf rfl rfl) ?_
    refine Ok.loop (fun m19 σ => ∃ (y15_0_14 : Str) (y15_1_15 : Int) (y3_13 : List T_api_Field), σ = ⟨[(0, (S a0)), (3, (.sref 3)), (5, (.bref 15 0)), (6, (S t3.1)), (8, (S t7.1))], [(3, (.rows true 54 2 (y3_13.map e_api_Field))), (15, (.box .ex [(S y15_0_14), (.v (.int .i64 y15_1_15))]))]⟩ ∧ field_ParseType.l0 k a0 t3 t7 m19 y15_0_14 y15_1_15 y3_13 = some r) k ⟨t7.2.S_, t7.2.At_, ([] : List T_api_Field), rfl, H⟩ ?_
    rintro m19 σ ⟨y15_0_14, y15_1_15, y3_13, rfl, H⟩
    cases m19 with
    | zero => exact absurd H (by simp [field_ParseType.l0])
    | succ m19 =>
      unfold field_ParseType.l0 at H
      refine Ok.block ?_
      refine Ok.seq ?_
      obtain ⟨t20, h21, H⟩ := bindE H
      refine Ok.region (σ' := ⟨[(0, (S a0)), (3, (.sref 3)), (5, (.bref 15 0)), (6, (S t3.1)), (8, (S t7.1))], [(3, (.rows true 54 2 (y3_13.map e_api_Field))), (15, (.box .ex [(S t20.S_), (.v (.int .i64 t20.At_))]))]⟩) ?_ ?_
      · refine .cv (VOk.mv (d := (.bref 15 0)) rfl rfl) rfl rfl ?_
        refine OpsOk.cons rfl (OpOk.callB (e := .ex) (ds0 := [(.bref 15 0)]) 15 rfl (.same _) cl45 (fun b => ((field_scanner_blanks.ok h21) b)) rfl ⟨.same _, trivial⟩ rfl rfl rfl rfl rfl) ?_
        exact .done (.rf rfl rfl)
      refine Ok.seq ?_
      refine Ok.seq ?_
      refine Ok.region (σ' := ⟨[(0, (S a0)), (3, (.sref 3)), (5, (.bref 15 0)), (6, (S t3.1)), (8, (S t7.1)), (42, (.v (.bool (t20.At_ == (a0.length : Int)))))], [(3, (.rows true 54 2 (y3_13.map e_api_Field))), (15, (.box .ex [(S t20.S_), (.v (.int .i64 t20.At_))]))]⟩) ?_ ?_
      · refine .cv (VOk.mv (d := (.bref 15 0)) rfl rfl) rfl rfl ?_
        refine .cv (VOk.nilCheckB rfl rfl rfl) rfl rfl ?_
        refine .cv (VOk.to (VOk.fieldB rfl Tryd.underlying71 rfl sz3 rfl rfl) rfl) rfl rfl ?_
        refine .cv (VOk.loadB (d := (.v (.int .i64 t20.At_))) rfl Tryd.underlying3 rfl rfl rfl rfl) rfl rfl ?_
        refine .cv (VOk.mv (d := (S a0)) rfl rfl) rfl rfl ?_
        refine .cv (VOk.lenStr (s := a0) rfl Tryd.underlying9 rfl) rfl rfl ?_
        refine .cv (VOk.arith (op := .eql) (k := .i64) (a := t20.At_) (b := (a0.length : Int)) rfl rfl rfl rfl) rfl rfl ?_
        exact .done (.rf rfl rfl)
      refine Ok.test (b := (t20.At_ == (a0.length : Int))) rfl (fun hb37 => ?_) (fun hb37 => ?_)
      · replace H := ifT H hb37
        refine Ok.seq ?_
        obtain ⟨c22, H⟩ := assertE H
        obtain ⟨c23, H⟩ := assertE H
        obtain ⟨t24, h25, H⟩ := bindE H
        refine Ok.region (σ' := ⟨[(2, (S t24)), (3, (.sref 3)), (4, (.v (.int .i64 0)))], [(3, (.rows true 54 2 (y3_13.map e_api_Field)))]⟩) ?_ ?_
        · refine .cv (VOk.mv (d := (S t3.1)) rfl rfl) rfl rfl ?_
          refine .cv (VOk.cat (a := t3.1) (b := ([47] : Str)) rfl rfl rfl c22) rfl rfl ?_
          refine .cv (VOk.mv (d := (S t7.1)) rfl rfl) rfl rfl ?_
          refine .cv (VOk.cat (a := (t3.1 ++ ([47] : Str))) (b := t7.1) rfl rfl rfl c23) rfl rfl ?_
          refine .cg (GOk.call rfl rfl cl34 rfl (field_lower.ok h25) rfl) rfl rfl ?_
          refine .cv (VOk.mv (d := (.sref 3)) rfl rfl) rfl rfl ?_
          refine .cv (VOk.asg (d := (S t24)) rfl rfl) rfl rfl ?_
          refine .cv (VOk.asg (d := (.sref 3)) rfl rfl) rfl rfl ?_
          refine .cv (VOk.asg (d := (.v (.int .i64 0))) rfl rfl) rfl rfl ?_
          exact .done (.rf rfl rfl)
        refine Ok.frzL 3 (e := e_api_Field) (xs := y3_13) rfl ?_
        refine Ok.ret ?_
        obtain rfl := Option.some.inj H
        exact ⟨.inl rfl, ⟨_, (.cons (.tmp rfl) (.cons (.tmp rfl) (.cons (.tmp rfl) .nil))), rfl⟩, trivial⟩
      · replace H := ifF H hb37
        refine Ok.skip ?_
        refine Ok.seq ?_
        refine Ok.seq ?_
        obtain ⟨t26, h27, H⟩ := bindE H
        refine Ok.region (σ' := ⟨[(0, (S a0)), (3, (.sref 3)), (5, (.bref 15 0)), (6, (S t3.1)), (8, (S t7.1)), (51, (.v (.bool (!t26.1))))], [(3, (.rows true 54 2 (y3_13.map e_api_Field))), (15, (.box .ex [(S t26.2.S_), (.v (.int .i64 t26.2.At_))]))]⟩) ?_ ?_
        · refine .cv (VOk.mv (d := (.bref 15 0)) rfl rfl) rfl rfl ?_
          refine OpsOk.cons rfl (OpOk.callB (e := .ex) (ds0 := [(.bref 15 0), (.v (.int .u8 59))]) 15 rfl (.same _) cl47 (fun b => ((field_scanner_sign.ok h27) b)) rfl ⟨.same _, .same _, trivial⟩ rfl rfl rfl rfl rfl) ?_
          refine .cv (VOk.not (b := t26.1) rfl rfl) rfl rfl ?_
          exact .done (.rf rfl rfl)
        refine Ok.test (b := (!t26.1)) rfl (fun hb36 => ?_) (fun hb36 => ?_)
        · replace H := ifT H hb36
          refine Ok.seq ?_
          refine Ok.region (σ' := ⟨[(2, (S ([] : Str))), (3, (.sref 3)), (4, (.v (.int .i64 4)))], [(3, (.rows true 54 2 (([] : List T_api_Field).map e_api_Field)))]⟩) ?_ ?_
          · refine .cv (VOk.asg (d := (S ([] : Str))) rfl rfl) rfl rfl ?_
            refine OpsOk.cons rfl (.nilT 3 54 2 (.inl rfl) rfl rfl) ?_
            refine .cv (VOk.asg (d := (.v (.int .i64 4))) rfl rfl) rfl rfl ?_
            exact .done (.rf rfl rfl)
          refine Ok.frzL 3 (e := e_api_Field) (xs := ([] : List T_api_Field)) rfl ?_
          refine Ok.ret ?_
          obtain rfl := Option.some.inj H
          exact ⟨.inl rfl, ⟨_, (.cons (.tmp rfl) (.cons (.tmp rfl) (.cons (.tmp rfl) .nil))), rfl⟩, trivial⟩
        · replace H := ifF H hb36
          refine Ok.skip ?_
          refine Ok.seq ?_
          obtain ⟨t28, h29, H⟩ := bindE H
          refine Ok.region (σ' := ⟨[(0, (S a0)), (3, (.sref 3)), (5, (.bref 15 0)), (6, (S t3.1)), (8, (S t7.1)), (9, (.bref 9 0)), (10, (.v (.bool t28.2.1)))], [(3, (.rows true 54 2 (y3_13.map e_api_Field))), (9, (.box .ex [(S t28.1.Name), (S t28.1.Value)])), (15, (.box .ex [(S t28.2.2.S_), (.v (.int .i64 t28.2.2.At_))]))]⟩) ?_ ?_
          · refine .cv (VOk.mv (d := (.bref 15 0)) rfl rfl) rfl rfl ?_
            refine OpsOk.cons rfl (OpOk.callB (e := .ex) (ds0 := [(.bref 15 0)]) 15 rfl (.same _) cl48 (fun b => ((field_scanner_param.ok h29) b)) rfl ⟨.same _, trivial⟩ rfl rfl rfl rfl rfl) ?_
            refine .cv (VOk.mv (d := (.tup [(.agg (e_api_Field t28.1)), (.v (.bool t28.2.1))])) rfl rfl) rfl rfl ?_
            refine .cv (VOk.extract (d := (.agg (e_api_Field t28.1))) rfl rfl rfl) rfl rfl ?_
            refine .cv (VOk.extract (d := (.v (.bool t28.2.1))) rfl rfl rfl) rfl rfl ?_
            refine OpsOk.cons rfl (OpOk.alloc 9 [none, none] rfl zo54 rfl rfl) ?_
            refine OpsOk.cons rfl (OpOk.to (σ2 := St.put ⟨_, (9, (.box .ex [(S t28.1.Name), (S t28.1.Value)])) :: _⟩ _ .junk) (.storeB rfl sz54 rfl rfl rfl rfl rfl rfl) rfl) ?_
            refine .cv (VOk.asg (d := (.v (.bool t28.2.1))) rfl rfl) rfl rfl ?_
            exact .done (.rf rfl rfl)
          refine Ok.seq ?_
          refine Ok.seq ?_
          obtain ⟨t30, h31, H⟩ := bindE H
          refine Ok.region (σ' := ⟨[(0, (S a0)), (3, (.sref 3)), (5, (.bref 15 0)), (6, (S t3.1)), (8, (S t7.1)), (9, (.bref 9 0)), (10, (.v (.bool t28.2.1))), (12, (.v (.bool t30.2)))], [(3, (.rows true 54 2 (y3_13.map e_api_Field))), (9, (.box .ex [(S t28.1.Name), (S t28.1.Value)])), (15, (.box .ex [(S t28.2.2.S_), (.v (.int .i64 t28.2.2.At_))]))]⟩) ?_ ?_
          · refine .cv (VOk.mv (d := (.sref 3)) rfl rfl) rfl rfl ?_
            refine .cv (VOk.to (VOk.fieldB rfl Tryd.underlying54 rfl sz9 rfl rfl) rfl) rfl rfl ?_
            refine .cv (VOk.loadB (d := (S t28.1.Name)) rfl Tryd.underlying9 rfl rfl rfl rfl) rfl rfl ?_
            refine .cg (GOk.callV rfl rfl cl23 rfl (field_Param.ok h31) rfl) rfl rfl ?_
            refine .cv (VOk.mv (d := (.tup [(S t30.1), (.v (.bool t30.2))])) rfl rfl) rfl rfl ?_
            refine .cv (VOk.extract (d := (S t30.1)) rfl rfl rfl) rfl rfl ?_
            refine .cv (VOk.extract (d := (.v (.bool t30.2))) rfl rfl rfl) rfl rfl ?_
            refine .cv (VOk.asg (d := (S t30.1)) rfl rfl) rfl rfl ?_
            refine .cv (VOk.asg (d := (.v (.bool t30.2))) rfl rfl) rfl rfl ?_
            exact .done (.rf rfl rfl)
          refine Ok.seq ?_
          refine Ok.region (σ' := ⟨[(0, (S a0)), (3, (.sref 3)), (5, (.bref 15 0)), (6, (S t3.1)), (8, (S t7.1)), (9, (.bref 9 0)), (68, (.v (.bool ((!t28.2.1) || t30.2))))], [(3, (.rows true 54 2 (y3_13.map e_api_Field))), (9, (.box .ex [(S t28.1.Name), (S t28.1.Value)])), (15, (.box .ex [(S t28.2.2.S_), (.v (.int .i64 t28.2.2.At_))]))]⟩) ?_ ?_
          · refine .cv (VOk.mv (d := (.v (.bool t28.2.1))) rfl rfl) rfl rfl ?_
            refine .cv (VOk.not (b := t28.2.1) rfl rfl) rfl rfl ?_
            refine .cv (VOk.mv (d := (.v (.bool (!t28.2.1)))) rfl rfl) rfl rfl ?_
            refine OpsOk.consI rfl rfl rfl (.one rfl) rfl (fun hw32 => (VOk.g (VOk.mv (d := (.v (.bool t30.2))) rfl rfl))) ?_
            refine .cv (VOk.to (VOk.pickI (b := (!t28.2.1)) (p := true) (q := t30.2) rfl rfl (fun hp33 => rfl) (fun hp33 => (cT (f_beq hp33)))) (pickOr (!t28.2.1) t30.2)) rfl rfl ?_
            exact .done (.rf rfl rfl)
          refine Ok.test (b := ((!t28.2.1) || t30.2)) rfl (fun hb35 => ?_) (fun hb35 => ?_)
          · replace H := ifT H hb35
            refine Ok.seq ?_
            refine Ok.region (σ' := ⟨[(2, (S ([] : Str))), (3, (.sref 3)), (4, (.v (.int .i64 4)))], [(3, (.rows true 54 2 (([] : List T_api_Field).map e_api_Field)))]⟩) ?_ ?_
            · refine .cv (VOk.asg (d := (S ([] : Str))) rfl rfl) rfl rfl ?_
              refine OpsOk.cons rfl (.nilT 3 54 2 (.inl rfl) rfl rfl) ?_
              refine .cv (VOk.asg (d := (.v (.int .i64 4))) rfl rfl) rfl rfl ?_
              exact .done (.rf rfl rfl)
            refine Ok.frzL 3 (e := e_api_Field) (xs := ([] : List T_api_Field)) rfl ?_
            refine Ok.ret ?_
            obtain rfl := Option.some.inj H
            exact ⟨.inl rfl, ⟨_, (.cons (.tmp rfl) (.cons (.tmp rfl) (.cons (.tmp rfl) .nil))), rfl⟩, trivial⟩
          · replace H := ifF H hb35
            refine Ok.skip ?_
            obtain ⟨c34, H⟩ := assertE H
            refine Ok.region (σ' := ⟨[(0, (S a0)), (3, (.sref 3)), (5, (.bref 15 0)), (6, (S t3.1)), (8, (S t7.1))], [(3, (.rows true 54 2 ((y3_13 ++ ([t28.1] : List T_api_Field)).map e_api_Field))), (15, (.box .ex [(S t28.2.2.S_), (.v (.int .i64 t28.2.2.At_))]))]⟩) ?_ ?_
            · refine .cv (VOk.mv (d := (.sref 3)) rfl rfl) rfl rfl ?_
              refine .cv (VOk.to (d' := (.agg (e_api_Field t28.1))) (.loadBAgg rfl Tryd.underlying54 rfl sz54 rfl rfl rfl) rfl) rfl rfl ?_
              refine .cg (GOk.to (d' := (L 2 e_api_Field ([t28.1] : List T_api_Field))) (GOk.lit rfl Tryd.underlying42 sz54 zs54 rfl rfl rfl rfl) rfl) rfl rfl ?_
              refine OpsOk.cons rfl (OpOk.appendL (e := e_api_Field) (xs := y3_13) (ys := ([t28.1] : List T_api_Field)) rfl Tryd.underlying42 elt54 rfl rfl rfl c34 rfl) ?_
              refine .cv (VOk.asg (d := (.sref 3)) rfl rfl) rfl rfl ?_
              exact .done (.rf rfl rfl)
            exact ⟨m19, Nat.lt_succ_self m19, t28.2.2.S_, t28.2.2.At_, (y3_13 ++ ([t28.1] : List T_api_Field)), rfl, H⟩

/-! watchbill/watchbilllaw07.awake: function 8 -/
def watchbilllaw07_awake (k : Nat) : Option Bool := ((field_Print k ([(T_api_Field.mk ([67, 111, 110, 116, 101, 110, 116, 45, 73, 68] : Str) ([60, 97, 64, 98, 62] : Str))] : List T_api_Field)).bind fun (t1 : Str × Int) => (if t1.1.length + ([120] : Str).length ≤ 9223372036854775807 then ((field_Parse k (t1.1 ++ ([120] : Str))).bind fun (t4 : (List T_api_Field) × Str × Int) => ((field_ParseType k ([84, 101, 120, 116, 47, 88, 77, 76, 59, 32, 97, 61, 34, 98, 92, 34, 99, 34] : Str)).bind fun (t6 : Str × (List T_api_Field) × Int) => (if (((((((((t1.1 == ([67, 111, 110, 116, 101, 110, 116, 45, 73, 68, 58, 32, 60, 97, 64, 98, 62, 13, 10, 13, 10] : Str)) && (t1.2 == 0)) && ((t4.1.length : Int) == 1)) && (t4.2.1 == ([120] : Str))) && (t4.2.2 == 0)) && (t6.1 == ([116, 101, 120, 116, 47, 120, 109, 108] : Str))) && ((t6.2.1.length : Int) == 1)) == true) = true → (0 : Int) ≤ 0 ∧ 0 < (t6.2.1.length : Int)) then (((if ((((((((((t1.1 == ([67, 111, 110, 116, 101, 110, 116, 45, 73, 68, 58, 32, 60, 97, 64, 98, 62, 13, 10, 13, 10] : Str)) && (t1.2 == 0)) && ((t4.1.length : Int) == 1)) && (t4.2.1 == ([120] : Str))) && (t4.2.2 == 0)) && (t6.1 == ([116, 101, 120, 116, 47, 120, 109, 108] : Str))) && ((t6.2.1.length : Int) == 1)) && (((rd t6.2.1 0).Value) == ([98, 34, 99] : Str))) && (t6.2.2 == 0)) == true) = true then field_Token k ([97, 46, 98] : Str) else some default)).bind fun (t26 : Bool) => (((if (((((((((((t1.1 == ([67, 111, 110, 116, 101, 110, 116, 45, 73, 68, 58, 32, 60, 97, 64, 98, 62, 13, 10, 13, 10] : Str)) && (t1.2 == 0)) && ((t4.1.length : Int) == 1)) && (t4.2.1 == ([120] : Str))) && (t4.2.2 == 0)) && (t6.1 == ([116, 101, 120, 116, 47, 120, 109, 108] : Str))) && ((t6.2.1.length : Int) == 1)) && (((rd t6.2.1 0).Value) == ([98, 34, 99] : Str))) && (t6.2.2 == 0)) && t26) == true) = true then field_Token k ([97, 47, 98] : Str) else some default)).bind fun (t30 : Bool) => some (((((((((((t1.1 == ([67, 111, 110, 116, 101, 110, 116, 45, 73, 68, 58, 32, 60, 97, 64, 98, 62, 13, 10, 13, 10] : Str)) && (t1.2 == 0)) && ((t4.1.length : Int) == 1)) && (t4.2.1 == ([120] : Str))) && (t4.2.2 == 0)) && (t6.1 == ([116, 101, 120, 116, 47, 120, 109, 108] : Str))) && ((t6.2.1.length : Int) == 1)) && (((rd t6.2.1 0).Value) == ([98, 34, 99] : Str))) && (t6.2.2 == 0)) && t26) && (!t30)))) else none))) else none))
theorem watchbilllaw07_awake.ok {k : Nat} {r : Bool} (H : watchbilllaw07_awake k = some r) : Vx.Fn Tryd.prog 8 [] [] (.v (.bool r)) [] := by
  unfold watchbilllaw07_awake at H
  refine Vx.Fn.of_okR Tryd.func8 rfl (Nat.le_of_ble_eq_true rfl) ?_
  refine Ok.seq ?_
  refine Ok.region (σ' := ⟨[], []⟩) ?_ ?_
  · refine .cv (VOk.asg (d := (.v (.bool false))) rfl rfl) rfl rfl ?_
    exact .done (.rf rfl rfl)
  refine Ok.seq ?_
  obtain ⟨t1, h2, H⟩ := bindE H
  refine Ok.region (σ' := ⟨[(1, (S t1.1)), (2, (.v (.int .i64 t1.2)))], []⟩) ?_ ?_
  · refine .cv (VOk.to (d' := (.agg (e_api_Field (T_api_Field.mk ([67, 111, 110, 116, 101, 110, 116, 45, 73, 68] : Str) ([60, 97, 64, 98, 62] : Str))))) (.build [none, none] [(0, 1), (1, 1)] rfl Tryd.underlying34 (fa34 Tryd.underlying34) zo34 rfl rfl) rfl) rfl rfl ?_
    refine .cg (GOk.to (d' := (L 2 e_api_Field ([(T_api_Field.mk ([67, 111, 110, 116, 101, 110, 116, 45, 73, 68] : Str) ([60, 97, 64, 98, 62] : Str))] : List T_api_Field))) (GOk.lit rfl Tryd.underlying22 sz34 zs34 rfl rfl rfl rfl) rfl) rfl rfl ?_
    refine .cg (GOk.call rfl rfl cl10 rfl (field_Print.ok h2) rfl) rfl rfl ?_
    refine .cv (VOk.mv (d := (.tup [(S t1.1), (.v (.int .i64 t1.2))])) rfl rfl) rfl rfl ?_
    refine .cv (VOk.extract (d := (S t1.1)) rfl rfl rfl) rfl rfl ?_
    refine .cv (VOk.extract (d := (.v (.int .i64 t1.2))) rfl rfl rfl) rfl rfl ?_
    refine .cv (VOk.asg (d := (S t1.1)) rfl rfl) rfl rfl ?_
    refine .cv (VOk.asg (d := (.v (.int .i64 t1.2))) rfl rfl) rfl rfl ?_
    exact .done (.rf rfl rfl)
  refine Ok.seq ?_
  obtain ⟨c3, H⟩ := assertE H
  obtain ⟨t4, h5, H⟩ := bindE H
  refine Ok.region (σ' := ⟨[(1, (S t1.1)), (2, (.v (.int .i64 t1.2))), (3, (L 2 e_api_Field t4.1)), (4, (S t4.2.1)), (5, (.v (.int .i64 t4.2.2)))], []⟩) ?_ ?_
  · refine .cv (VOk.mv (d := (S t1.1)) rfl rfl) rfl rfl ?_
    refine .cv (VOk.cat (a := t1.1) (b := ([120] : Str)) rfl rfl rfl c3) rfl rfl ?_
    refine .cg (GOk.call rfl rfl cl11 rfl (field_Parse.ok h5) rfl) rfl rfl ?_
    refine .cv (VOk.mv (d := (.tup [(L 2 e_api_Field t4.1), (S t4.2.1), (.v (.int .i64 t4.2.2))])) rfl rfl) rfl rfl ?_
    refine .cv (VOk.extract (d := (L 2 e_api_Field t4.1)) rfl rfl rfl) rfl rfl ?_
    refine .cv (VOk.extract (d := (S t4.2.1)) rfl rfl rfl) rfl rfl ?_
    refine .cv (VOk.extract (d := (.v (.int .i64 t4.2.2))) rfl rfl rfl) rfl rfl ?_
    refine .cv (VOk.asg (d := (L 2 e_api_Field t4.1)) rfl rfl) rfl rfl ?_
    refine .cv (VOk.asg (d := (S t4.2.1)) rfl rfl) rfl rfl ?_
    refine .cv (VOk.asg (d := (.v (.int .i64 t4.2.2))) rfl rfl) rfl rfl ?_
    exact .done (.rf rfl rfl)
  refine Ok.seq ?_
  obtain ⟨t6, h7, H⟩ := bindE H
  refine Ok.region (σ' := ⟨[(1, (S t1.1)), (2, (.v (.int .i64 t1.2))), (3, (L 2 e_api_Field t4.1)), (4, (S t4.2.1)), (5, (.v (.int .i64 t4.2.2))), (6, (S t6.1)), (7, (L 2 e_api_Field t6.2.1)), (8, (.v (.int .i64 t6.2.2)))], []⟩) ?_ ?_
  · refine .cg (GOk.call rfl rfl cl21 rfl (field_ParseType.ok h7) rfl) rfl rfl ?_
    refine .cv (VOk.mv (d := (.tup [(S t6.1), (L 2 e_api_Field t6.2.1), (.v (.int .i64 t6.2.2))])) rfl rfl) rfl rfl ?_
    refine .cv (VOk.extract (d := (S t6.1)) rfl rfl rfl) rfl rfl ?_
    refine .cv (VOk.extract (d := (L 2 e_api_Field t6.2.1)) rfl rfl rfl) rfl rfl ?_
    refine .cv (VOk.extract (d := (.v (.int .i64 t6.2.2))) rfl rfl rfl) rfl rfl ?_
    refine .cv (VOk.asg (d := (S t6.1)) rfl rfl) rfl rfl ?_
    refine .cv (VOk.asg (d := (L 2 e_api_Field t6.2.1)) rfl rfl) rfl rfl ?_
    refine .cv (VOk.asg (d := (.v (.int .i64 t6.2.2))) rfl rfl) rfl rfl ?_
    exact .done (.rf rfl rfl)
  refine Ok.seq ?_
  obtain ⟨c21, H⟩ := assertE H
  obtain ⟨t26, h27, H⟩ := bindE H
  obtain ⟨t30, h31, H⟩ := bindE H
  refine Ok.region (σ' := ⟨[(0, (.v (.bool (((((((((((t1.1 == ([67, 111, 110, 116, 101, 110, 116, 45, 73, 68, 58, 32, 60, 97, 64, 98, 62, 13, 10, 13, 10] : Str)) && (t1.2 == 0)) && ((t4.1.length : Int) == 1)) && (t4.2.1 == ([120] : Str))) && (t4.2.2 == 0)) && (t6.1 == ([116, 101, 120, 116, 47, 120, 109, 108] : Str))) && ((t6.2.1.length : Int) == 1)) && (((rd t6.2.1 0).Value) == ([98, 34, 99] : Str))) && (t6.2.2 == 0)) && t26) && (!t30)))))], []⟩) ?_ ?_
  · refine .cv (VOk.mv (d := (S t1.1)) rfl rfl) rfl rfl ?_
    refine .cv (VOk.strOp (op := .eql) (a := t1.1) (b := ([67, 111, 110, 116, 101, 110, 116, 45, 73, 68, 58, 32, 60, 97, 64, 98, 62, 13, 10, 13, 10] : Str)) rfl rfl rfl rfl) rfl rfl ?_
    refine .cv (VOk.mv (d := (.v (.bool (t1.1 == ([67, 111, 110, 116, 101, 110, 116, 45, 73, 68, 58, 32, 60, 97, 64, 98, 62, 13, 10, 13, 10] : Str))))) rfl rfl) rfl rfl ?_
    refine OpsOk.consI rfl rfl rfl (.one rfl) rfl (fun hw8 => (VOk.g (VOk.mv (d := (.v (.int .i64 t1.2))) rfl rfl))) ?_
    refine OpsOk.consI rfl rfl rfl (.one rfl) rfl (fun hw8 => (GOk.fr (fr' := [(30, (.v (.int .i64 t1.2)))]) ⟨DLe.of_eq (cT hw8).symm, trivial⟩ (VOk.g (VOk.arith (op := .eql) (k := .i64) (a := t1.2) (b := 0) rfl rfl rfl rfl)))) ?_
    refine .cv (VOk.to (VOk.pickI (b := (t1.1 == ([67, 111, 110, 116, 101, 110, 116, 45, 73, 68, 58, 32, 60, 97, 64, 98, 62, 13, 10, 13, 10] : Str))) (p := (t1.2 == 0)) (q := false) rfl rfl (fun hp9 => (cT (t_beq hp9))) (fun hp9 => rfl)) (pickAnd (t1.1 == ([67, 111, 110, 116, 101, 110, 116, 45, 73, 68, 58, 32, 60, 97, 64, 98, 62, 13, 10, 13, 10] : Str)) (t1.2 == 0))) rfl rfl ?_
    refine .cv (VOk.mv (d := (.v (.bool ((t1.1 == ([67, 111, 110, 116, 101, 110, 116, 45, 73, 68, 58, 32, 60, 97, 64, 98, 62, 13, 10, 13, 10] : Str)) && (t1.2 == 0))))) rfl rfl) rfl rfl ?_
    refine OpsOk.consI rfl rfl rfl (.one rfl) rfl (fun hw10 => (VOk.g (VOk.mv (d := (L 2 e_api_Field t4.1)) rfl rfl))) ?_
    refine OpsOk.consI rfl rfl rfl (.one rfl) rfl (fun hw10 => (GOk.fr (fr' := [(34, (L 2 e_api_Field t4.1))]) ⟨DLe.of_eq (cT hw10).symm, trivial⟩ (VOk.g (VOk.lenL (e := e_api_Field) (xs := t4.1) rfl Tryd.underlying22 rfl)))) ?_
    refine OpsOk.consI rfl rfl rfl (.one rfl) rfl (fun hw10 => (GOk.fr (fr' := [(35, (.v (.int .i64 (t4.1.length : Int))))]) ⟨DLe.of_eq (cT hw10).symm, trivial⟩ (VOk.g (VOk.arith (op := .eql) (k := .i64) (a := (t4.1.length : Int)) (b := 1) rfl rfl rfl rfl)))) ?_
    refine .cv (VOk.to (VOk.pickI (b := ((t1.1 == ([67, 111, 110, 116, 101, 110, 116, 45, 73, 68, 58, 32, 60, 97, 64, 98, 62, 13, 10, 13, 10] : Str)) && (t1.2 == 0))) (p := ((t4.1.length : Int) == 1)) (q := false) rfl rfl (fun hp11 => (cT (t_beq hp11))) (fun hp11 => rfl)) (pickAnd ((t1.1 == ([67, 111, 110, 116, 101, 110, 116, 45, 73, 68, 58, 32, 60, 97, 64, 98, 62, 13, 10, 13, 10] : Str)) && (t1.2 == 0)) ((t4.1.length : Int) == 1))) rfl rfl ?_
    refine .cv (VOk.mv (d := (.v (.bool (((t1.1 == ([67, 111, 110, 116, 101, 110, 116, 45, 73, 68, 58, 32, 60, 97, 64, 98, 62, 13, 10, 13, 10] : Str)) && (t1.2 == 0)) && ((t4.1.length : Int) == 1))))) rfl rfl) rfl rfl ?_
    refine OpsOk.consI rfl rfl rfl (.one rfl) rfl (fun hw12 => (VOk.g (VOk.mv (d := (S t4.2.1)) rfl rfl))) ?_
    refine OpsOk.consI rfl rfl rfl (.one rfl) rfl (fun hw12 => (GOk.fr (fr' := [(39, (S t4.2.1))]) ⟨DLe.of_eq (cT hw12).symm, trivial⟩ (VOk.g (VOk.strOp (op := .eql) (a := t4.2.1) (b := ([120] : Str)) rfl rfl rfl rfl)))) ?_
    refine .cv (VOk.to (VOk.pickI (b := (((t1.1 == ([67, 111, 110, 116, 101, 110, 116, 45, 73, 68, 58, 32, 60, 97, 64, 98, 62, 13, 10, 13, 10] : Str)) && (t1.2 == 0)) && ((t4.1.length : Int) == 1))) (p := (t4.2.1 == ([120] : Str))) (q := false) rfl rfl (fun hp13 => (cT (t_beq hp13))) (fun hp13 => rfl)) (pickAnd (((t1.1 == ([67, 111, 110, 116, 101, 110, 116, 45, 73, 68, 58, 32, 60, 97, 64, 98, 62, 13, 10, 13, 10] : Str)) && (t1.2 == 0)) && ((t4.1.length : Int) == 1)) (t4.2.1 == ([120] : Str)))) rfl rfl ?_
    refine .cv (VOk.mv (d := (.v (.bool ((((t1.1 == ([67, 111, 110, 116, 101, 110, 116, 45, 73, 68, 58, 32, 60, 97, 64, 98, 62, 13, 10, 13, 10] : Str)) && (t1.2 == 0)) && ((t4.1.length : Int) == 1)) && (t4.2.1 == ([120] : Str)))))) rfl rfl) rfl rfl ?_
    refine OpsOk.consI rfl rfl rfl (.one rfl) rfl (fun hw14 => (VOk.g (VOk.mv (d := (.v (.int .i64 t4.2.2))) rfl rfl))) ?_
    refine OpsOk.consI rfl rfl rfl (.one rfl) rfl (fun hw14 => (GOk.fr (fr' := [(43, (.v (.int .i64 t4.2.2)))]) ⟨DLe.of_eq (cT hw14).symm, trivial⟩ (VOk.g (VOk.arith (op := .eql) (k := .i64) (a := t4.2.2) (b := 0) rfl rfl rfl rfl)))) ?_
    refine .cv (VOk.to (VOk.pickI (b := ((((t1.1 == ([67, 111, 110, 116, 101, 110, 116, 45, 73, 68, 58, 32, 60, 97, 64, 98, 62, 13, 10, 13, 10] : Str)) && (t1.2 == 0)) && ((t4.1.length : Int) == 1)) && (t4.2.1 == ([120] : Str)))) (p := (t4.2.2 == 0)) (q := false) rfl rfl (fun hp15 => (cT (t_beq hp15))) (fun hp15 => rfl)) (pickAnd ((((t1.1 == ([67, 111, 110, 116, 101, 110, 116, 45, 73, 68, 58, 32, 60, 97, 64, 98, 62, 13, 10, 13, 10] : Str)) && (t1.2 == 0)) && ((t4.1.length : Int) == 1)) && (t4.2.1 == ([120] : Str))) (t4.2.2 == 0))) rfl rfl ?_
    refine .cv (VOk.mv (d := (.v (.bool (((((t1.1 == ([67, 111, 110, 116, 101, 110, 116, 45, 73, 68, 58, 32, 60, 97, 64, 98, 62, 13, 10, 13, 10] : Str)) && (t1.2 == 0)) && ((t4.1.length : Int) == 1)) && (t4.2.1 == ([120] : Str))) && (t4.2.2 == 0))))) rfl rfl) rfl rfl ?_
    refine OpsOk.consI rfl rfl rfl (.one rfl) rfl (fun hw16 => (VOk.g (VOk.mv (d := (S t6.1)) rfl rfl))) ?_
    refine OpsOk.consI rfl rfl rfl (.one rfl) rfl (fun hw16 => (GOk.fr (fr' := [(47, (S t6.1))]) ⟨DLe.of_eq (cT hw16).symm, trivial⟩ (VOk.g (VOk.strOp (op := .eql) (a := t6.1) (b := ([116, 101, 120, 116, 47, 120, 109, 108] : Str)) rfl rfl rfl rfl)))) ?_
    refine .cv (VOk.to (VOk.pickI (b := (((((t1.1 == ([67, 111, 110, 116, 101, 110, 116, 45, 73, 68, 58, 32, 60, 97, 64, 98, 62, 13, 10, 13, 10] : Str)) && (t1.2 == 0)) && ((t4.1.length : Int) == 1)) && (t4.2.1 == ([120] : Str))) && (t4.2.2 == 0))) (p := (t6.1 == ([116, 101, 120, 116, 47, 120, 109, 108] : Str))) (q := false) rfl rfl (fun hp17 => (cT (t_beq hp17))) (fun hp17 => rfl)) (pickAnd (((((t1.1 == ([67, 111, 110, 116, 101, 110, 116, 45, 73, 68, 58, 32, 60, 97, 64, 98, 62, 13, 10, 13, 10] : Str)) && (t1.2 == 0)) && ((t4.1.length : Int) == 1)) && (t4.2.1 == ([120] : Str))) && (t4.2.2 == 0)) (t6.1 == ([116, 101, 120, 116, 47, 120, 109, 108] : Str)))) rfl rfl ?_
    refine .cv (VOk.mv (d := (.v (.bool ((((((t1.1 == ([67, 111, 110, 116, 101, 110, 116, 45, 73, 68, 58, 32, 60, 97, 64, 98, 62, 13, 10, 13, 10] : Str)) && (t1.2 == 0)) && ((t4.1.length : Int) == 1)) && (t4.2.1 == ([120] : Str))) && (t4.2.2 == 0)) && (t6.1 == ([116, 101, 120, 116, 47, 120, 109, 108] : Str)))))) rfl rfl) rfl rfl ?_
    refine OpsOk.consI rfl rfl rfl (.one rfl) rfl (fun hw18 => (VOk.g (VOk.mv (d := (L 2 e_api_Field t6.2.1)) rfl rfl))) ?_
    refine OpsOk.consI rfl rfl rfl (.one rfl) rfl (fun hw18 => (GOk.fr (fr' := [(51, (L 2 e_api_Field t6.2.1))]) ⟨DLe.of_eq (cT hw18).symm, trivial⟩ (VOk.g (VOk.lenL (e := e_api_Field) (xs := t6.2.1) rfl Tryd.underlying42 rfl)))) ?_
    refine OpsOk.consI rfl rfl rfl (.one rfl) rfl (fun hw18 => (GOk.fr (fr' := [(52, (.v (.int .i64 (t6.2.1.length : Int))))]) ⟨DLe.of_eq (cT hw18).symm, trivial⟩ (VOk.g (VOk.arith (op := .eql) (k := .i64) (a := (t6.2.1.length : Int)) (b := 1) rfl rfl rfl rfl)))) ?_
    refine .cv (VOk.to (VOk.pickI (b := ((((((t1.1 == ([67, 111, 110, 116, 101, 110, 116, 45, 73, 68, 58, 32, 60, 97, 64, 98, 62, 13, 10, 13, 10] : Str)) && (t1.2 == 0)) && ((t4.1.length : Int) == 1)) && (t4.2.1 == ([120] : Str))) && (t4.2.2 == 0)) && (t6.1 == ([116, 101, 120, 116, 47, 120, 109, 108] : Str)))) (p := ((t6.2.1.length : Int) == 1)) (q := false) rfl rfl (fun hp19 => (cT (t_beq hp19))) (fun hp19 => rfl)) (pickAnd ((((((t1.1 == ([67, 111, 110, 116, 101, 110, 116, 45, 73, 68, 58, 32, 60, 97, 64, 98, 62, 13, 10, 13, 10] : Str)) && (t1.2 == 0)) && ((t4.1.length : Int) == 1)) && (t4.2.1 == ([120] : Str))) && (t4.2.2 == 0)) && (t6.1 == ([116, 101, 120, 116, 47, 120, 109, 108] : Str))) ((t6.2.1.length : Int) == 1))) rfl rfl ?_
    refine .cv (VOk.mv (d := (.v (.bool (((((((t1.1 == ([67, 111, 110, 116, 101, 110, 116, 45, 73, 68, 58, 32, 60, 97, 64, 98, 62, 13, 10, 13, 10] : Str)) && (t1.2 == 0)) && ((t4.1.length : Int) == 1)) && (t4.2.1 == ([120] : Str))) && (t4.2.2 == 0)) && (t6.1 == ([116, 101, 120, 116, 47, 120, 109, 108] : Str))) && ((t6.2.1.length : Int) == 1))))) rfl rfl) rfl rfl ?_
    refine OpsOk.consI rfl rfl rfl (.one rfl) rfl (fun hw20 => (VOk.g (VOk.mv (d := (L 2 e_api_Field t6.2.1)) rfl rfl))) ?_
    refine OpsOk.consI rfl rfl rfl (.one rfl) rfl (fun hw20 => (GOk.fr (fr' := [(56, (L 2 e_api_Field t6.2.1))]) ⟨DLe.of_eq (cT hw20).symm, trivial⟩ (VOk.g (VOk.indexL (sz := 2) (e := e_api_Field) (xs := t6.2.1) (i := 0) rfl Tryd.underlying42 sz54 rfl rfl (c21 hw20))))) ?_
    refine OpsOk.consI rfl rfl rfl (.one rfl) rfl (fun hw20 => (GOk.fr (fr' := [(57, (.fp (e_api_Field (rd t6.2.1 0)) 0))]) ⟨DLe.of_eq (cT hw20).symm, trivial⟩ (VOk.g (VOk.to (VOk.fieldFp rfl Tryd.underlying54 rfl sz9 rfl) rfl)))) ?_
    refine OpsOk.consI rfl rfl rfl (.one rfl) rfl (fun hw20 => (GOk.fr (fr' := [(58, (.fp (e_api_Field (rd t6.2.1 0)) 1))]) ⟨DLe.of_eq (cT hw20).symm, trivial⟩ (VOk.g (VOk.loadFp (d := (S ((rd t6.2.1 0).Value))) rfl Tryd.underlying9 rfl rfl rfl)))) ?_
    refine OpsOk.consI rfl rfl rfl (.one rfl) rfl (fun hw20 => (GOk.fr (fr' := [(59, (S ((rd t6.2.1 0).Value)))]) ⟨DLe.of_eq (cT hw20).symm, trivial⟩ (VOk.g (VOk.strOp (op := .eql) (a := (rd t6.2.1 0).Value) (b := ([98, 34, 99] : Str)) rfl rfl rfl rfl)))) ?_
    refine .cv (VOk.to (VOk.pickI (b := (((((((t1.1 == ([67, 111, 110, 116, 101, 110, 116, 45, 73, 68, 58, 32, 60, 97, 64, 98, 62, 13, 10, 13, 10] : Str)) && (t1.2 == 0)) && ((t4.1.length : Int) == 1)) && (t4.2.1 == ([120] : Str))) && (t4.2.2 == 0)) && (t6.1 == ([116, 101, 120, 116, 47, 120, 109, 108] : Str))) && ((t6.2.1.length : Int) == 1))) (p := (((rd t6.2.1 0).Value) == ([98, 34, 99] : Str))) (q := false) rfl rfl (fun hp22 => (cT (t_beq hp22))) (fun hp22 => rfl)) (pickAnd (((((((t1.1 == ([67, 111, 110, 116, 101, 110, 116, 45, 73, 68, 58, 32, 60, 97, 64, 98, 62, 13, 10, 13, 10] : Str)) && (t1.2 == 0)) && ((t4.1.length : Int) == 1)) && (t4.2.1 == ([120] : Str))) && (t4.2.2 == 0)) && (t6.1 == ([116, 101, 120, 116, 47, 120, 109, 108] : Str))) && ((t6.2.1.length : Int) == 1)) (((rd t6.2.1 0).Value) == ([98, 34, 99] : Str)))) rfl rfl ?_
    refine .cv (VOk.mv (d := (.v (.bool ((((((((t1.1 == ([67, 111, 110, 116, 101, 110, 116, 45, 73, 68, 58, 32, 60, 97, 64, 98, 62, 13, 10, 13, 10] : Str)) && (t1.2 == 0)) && ((t4.1.length : Int) == 1)) && (t4.2.1 == ([120] : Str))) && (t4.2.2 == 0)) && (t6.1 == ([116, 101, 120, 116, 47, 120, 109, 108] : Str))) && ((t6.2.1.length : Int) == 1)) && (((rd t6.2.1 0).Value) == ([98, 34, 99] : Str)))))) rfl rfl) rfl rfl ?_
    refine OpsOk.consI rfl rfl rfl (.one rfl) rfl (fun hw23 => (VOk.g (VOk.mv (d := (.v (.int .i64 t6.2.2))) rfl rfl))) ?_
    refine OpsOk.consI rfl rfl rfl (.one rfl) rfl (fun hw23 => (GOk.fr (fr' := [(63, (.v (.int .i64 t6.2.2)))]) ⟨DLe.of_eq (cT hw23).symm, trivial⟩ (VOk.g (VOk.arith (op := .eql) (k := .i64) (a := t6.2.2) (b := 0) rfl rfl rfl rfl)))) ?_
    refine .cv (VOk.to (VOk.pickI (b := ((((((((t1.1 == ([67, 111, 110, 116, 101, 110, 116, 45, 73, 68, 58, 32, 60, 97, 64, 98, 62, 13, 10, 13, 10] : Str)) && (t1.2 == 0)) && ((t4.1.length : Int) == 1)) && (t4.2.1 == ([120] : Str))) && (t4.2.2 == 0)) && (t6.1 == ([116, 101, 120, 116, 47, 120, 109, 108] : Str))) && ((t6.2.1.length : Int) == 1)) && (((rd t6.2.1 0).Value) == ([98, 34, 99] : Str)))) (p := (t6.2.2 == 0)) (q := false) rfl rfl (fun hp24 => (cT (t_beq hp24))) (fun hp24 => rfl)) (pickAnd ((((((((t1.1 == ([67, 111, 110, 116, 101, 110, 116, 45, 73, 68, 58, 32, 60, 97, 64, 98, 62, 13, 10, 13, 10] : Str)) && (t1.2 == 0)) && ((t4.1.length : Int) == 1)) && (t4.2.1 == ([120] : Str))) && (t4.2.2 == 0)) && (t6.1 == ([116, 101, 120, 116, 47, 120, 109, 108] : Str))) && ((t6.2.1.length : Int) == 1)) && (((rd t6.2.1 0).Value) == ([98, 34, 99] : Str))) (t6.2.2 == 0))) rfl rfl ?_
    refine .cv (VOk.mv (d := (.v (.bool (((((((((t1.1 == ([67, 111, 110, 116, 101, 110, 116, 45, 73, 68, 58, 32, 60, 97, 64, 98, 62, 13, 10, 13, 10] : Str)) && (t1.2 == 0)) && ((t4.1.length : Int) == 1)) && (t4.2.1 == ([120] : Str))) && (t4.2.2 == 0)) && (t6.1 == ([116, 101, 120, 116, 47, 120, 109, 108] : Str))) && ((t6.2.1.length : Int) == 1)) && (((rd t6.2.1 0).Value) == ([98, 34, 99] : Str))) && (t6.2.2 == 0))))) rfl rfl) rfl rfl ?_
    refine OpsOk.consI rfl rfl rfl (.one rfl) rfl (fun hw25 => (GOk.call rfl rfl cl16 rfl (field_Token.ok (ifT h27 hw25)) rfl)) ?_
    refine .cv (VOk.to (VOk.pickI (b := (((((((((t1.1 == ([67, 111, 110, 116, 101, 110, 116, 45, 73, 68, 58, 32, 60, 97, 64, 98, 62, 13, 10, 13, 10] : Str)) && (t1.2 == 0)) && ((t4.1.length : Int) == 1)) && (t4.2.1 == ([120] : Str))) && (t4.2.2 == 0)) && (t6.1 == ([116, 101, 120, 116, 47, 120, 109, 108] : Str))) && ((t6.2.1.length : Int) == 1)) && (((rd t6.2.1 0).Value) == ([98, 34, 99] : Str))) && (t6.2.2 == 0))) (p := t26) (q := false) rfl rfl (fun hp28 => (cT (t_beq hp28))) (fun hp28 => rfl)) (pickAnd (((((((((t1.1 == ([67, 111, 110, 116, 101, 110, 116, 45, 73, 68, 58, 32, 60, 97, 64, 98, 62, 13, 10, 13, 10] : Str)) && (t1.2 == 0)) && ((t4.1.length : Int) == 1)) && (t4.2.1 == ([120] : Str))) && (t4.2.2 == 0)) && (t6.1 == ([116, 101, 120, 116, 47, 120, 109, 108] : Str))) && ((t6.2.1.length : Int) == 1)) && (((rd t6.2.1 0).Value) == ([98, 34, 99] : Str))) && (t6.2.2 == 0)) t26)) rfl rfl ?_
    refine .cv (VOk.mv (d := (.v (.bool ((((((((((t1.1 == ([67, 111, 110, 116, 101, 110, 116, 45, 73, 68, 58, 32, 60, 97, 64, 98, 62, 13, 10, 13, 10] : Str)) && (t1.2 == 0)) && ((t4.1.length : Int) == 1)) && (t4.2.1 == ([120] : Str))) && (t4.2.2 == 0)) && (t6.1 == ([116, 101, 120, 116, 47, 120, 109, 108] : Str))) && ((t6.2.1.length : Int) == 1)) && (((rd t6.2.1 0).Value) == ([98, 34, 99] : Str))) && (t6.2.2 == 0)) && t26)))) rfl rfl) rfl rfl ?_
    refine OpsOk.consI rfl rfl rfl (.one rfl) rfl (fun hw29 => (GOk.call rfl rfl cl16 rfl (field_Token.ok (ifT h31 hw29)) rfl)) ?_
    refine OpsOk.consI rfl rfl rfl (.one rfl) rfl (fun hw29 => (GOk.fr (fr' := [(70, (.v (.bool t30)))]) ⟨DLe.of_eq (cT hw29).symm, trivial⟩ (VOk.g (VOk.not (b := t30) rfl rfl)))) ?_
    refine .cv (VOk.to (VOk.pickI (b := ((((((((((t1.1 == ([67, 111, 110, 116, 101, 110, 116, 45, 73, 68, 58, 32, 60, 97, 64, 98, 62, 13, 10, 13, 10] : Str)) && (t1.2 == 0)) && ((t4.1.length : Int) == 1)) && (t4.2.1 == ([120] : Str))) && (t4.2.2 == 0)) && (t6.1 == ([116, 101, 120, 116, 47, 120, 109, 108] : Str))) && ((t6.2.1.length : Int) == 1)) && (((rd t6.2.1 0).Value) == ([98, 34, 99] : Str))) && (t6.2.2 == 0)) && t26)) (p := (!t30)) (q := false) rfl rfl (fun hp32 => (cT (t_beq hp32))) (fun hp32 => rfl)) (pickAnd ((((((((((t1.1 == ([67, 111, 110, 116, 101, 110, 116, 45, 73, 68, 58, 32, 60, 97, 64, 98, 62, 13, 10, 13, 10] : Str)) && (t1.2 == 0)) && ((t4.1.length : Int) == 1)) && (t4.2.1 == ([120] : Str))) && (t4.2.2 == 0)) && (t6.1 == ([116, 101, 120, 116, 47, 120, 109, 108] : Str))) && ((t6.2.1.length : Int) == 1)) && (((rd t6.2.1 0).Value) == ([98, 34, 99] : Str))) && (t6.2.2 == 0)) && t26) (!t30))) rfl rfl ?_
    refine .cv (VOk.asg (d := (.v (.bool (((((((((((t1.1 == ([67, 111, 110, 116, 101, 110, 116, 45, 73, 68, 58, 32, 60, 97, 64, 98, 62, 13, 10, 13, 10] : Str)) && (t1.2 == 0)) && ((t4.1.length : Int) == 1)) && (t4.2.1 == ([120] : Str))) && (t4.2.2 == 0)) && (t6.1 == ([116, 101, 120, 116, 47, 120, 109, 108] : Str))) && ((t6.2.1.length : Int) == 1)) && (((rd t6.2.1 0).Value) == ([98, 34, 99] : Str))) && (t6.2.2 == 0)) && t26) && (!t30))))) rfl rfl) rfl rfl ?_
    exact .done (.rf rfl rfl)
  refine Ok.ret ?_
  obtain rfl := Option.some.inj H
  exact ⟨.inl rfl, ⟨_, (.cons (.tmp rfl) .nil), rfl⟩, trivial⟩

/-! watchbill/watchbilllaw07.Few: function 9 -/
def watchbilllaw07_Few.l0 (k : Nat) (a0 : List T_api_Field) : Nat → Int → Int → Option Bool
  | 0, _, _ => none
  | m5 + 1, x3_1, x4_2 => (if ((decide (x4_2 < (a0.length : Int))) && (decide (x3_1 < 5000))) = true then (if (0 : Int) ≤ x4_2 ∧ x4_2 < (a0.length : Int) then (if (0 : Int) ≤ x4_2 ∧ x4_2 < (a0.length : Int) then watchbilllaw07_Few.l0 k a0 m5 (IntKind.i64.wrap ((IntKind.i64.wrap (x3_1 + (if 5000 < (((rd a0 x4_2).Name).length : Int) then 5000 else (((rd a0 x4_2).Name).length : Int)))) + (if 5000 < (((rd a0 x4_2).Value).length : Int) then 5000 else (((rd a0 x4_2).Value).length : Int)))) (IntKind.i64.wrap (x4_2 + 1)) else none) else none) else some (decide (x3_1 < 5000)))
def watchbilllaw07_Few (k : Nat) (a0 : List T_api_Field) : Option Bool := watchbilllaw07_Few.l0 k a0 k (if 5000 < (a0.length : Int) then 5000 else (a0.length : Int)) 0
theorem watchbilllaw07_Few.ok {k : Nat} {a0 : List T_api_Field} {r : Bool} (H : watchbilllaw07_Few k a0 = some r) : Vx.Fn Tryd.prog 9 [(L 2 e_api_Field a0)] [] (.v (.bool r)) [] := by
  unfold watchbilllaw07_Few at H
  refine Vx.Fn.of_okR Tryd.func9 rfl (Nat.le_of_ble_eq_true rfl) ?_
  refine Ok.seq ?_
  refine Ok.region (σ' := ⟨[(0, (L 2 e_api_Field a0))], []⟩) ?_ ?_
  · refine .cv (VOk.asg (d := (.v (.bool false))) rfl rfl) rfl rfl ?_
    exact .done (.rf rfl rfl)
  refine Ok.seq ?_
  refine Ok.region (σ' := ⟨[(0, (L 2 e_api_Field a0)), (3, (.v (.int .i64 (if 5000 < (a0.length : Int) then 5000 else (a0.length : Int)))))], []⟩) ?_ ?_
  · refine .cv (VOk.mv (d := (L 2 e_api_Field a0)) rfl rfl) rfl rfl ?_
    refine .cv (VOk.lenL (e := e_api_Field) (xs := a0) rfl Tryd.underlying22 rfl) rfl rfl ?_
    refine .cv (VOk.min2 (a := (a0.length : Int)) (b := 5000) rfl rfl rfl) rfl rfl ?_
    refine .cv (VOk.asg (d := (.v (.int .i64 (if 5000 < (a0.length : Int) then 5000 else (a0.length : Int))))) rfl rfl) rfl rfl ?_
    exact .done (.rf rfl rfl)
  refine Ok.seq ?_
  refine Ok.seq ?_
  refine Ok.region (σ' := ⟨[(0, (L 2 e_api_Field a0)), (3, (.v (.int .i64 (if 5000 < (a0.length : Int) then 5000 else (a0.length : Int))))), (4, (.v (.int .i64 0)))], []⟩) ?_ ?_
  · refine .cv (VOk.asg (d := (.v (.int .i64 0))) rfl rfl) rfl rfl ?_
    exact .done (.rf rfl rfl)
  refine Ok.block ?_
  refine Ok.le (σ' := ⟨[(0, (L 2 e_api_Field a0)), (3, (.v (.int .i64 (if 5000 < (a0.length : Int) then 5000 else (a0.length : Int))))), (4, (.v (.int .i64 0)))], []⟩) (.rf rfl rfl) ?_
  refine Ok.loop (fun m5 σ => ∃ (x3_1 : Int) (x4_2 : Int), σ = ⟨[(0, (L 2 e_api_Field a0)), (3, (.v (.int .i64 x3_1))), (4, (.v (.int .i64 x4_2)))], []⟩ ∧ watchbilllaw07_Few.l0 k a0 m5 x3_1 x4_2 = some r) k ⟨(if 5000 < (a0.length : Int) then 5000 else (a0.length : Int)), 0, rfl, H⟩ ?_
  rintro m5 σ ⟨x3_1, x4_2, rfl, H⟩
  cases m5 with
  | zero => exact absurd H (by simp [watchbilllaw07_Few.l0])
  | succ m5 =>
    unfold watchbilllaw07_Few.l0 at H
    refine Ok.seq ?_
    refine Ok.seq ?_
    refine Ok.region (σ' := ⟨[(0, (L 2 e_api_Field a0)), (3, (.v (.int .i64 x3_1))), (4, (.v (.int .i64 x4_2))), (15, (.v (.bool ((decide (x4_2 < (a0.length : Int))) && (decide (x3_1 < 5000))))))], []⟩) ?_ ?_
    · refine .cv (VOk.mv (d := (.v (.int .i64 x4_2))) rfl rfl) rfl rfl ?_
      refine .cv (VOk.mv (d := (L 2 e_api_Field a0)) rfl rfl) rfl rfl ?_
      refine .cv (VOk.lenL (e := e_api_Field) (xs := a0) rfl Tryd.underlying22 rfl) rfl rfl ?_
      refine .cv (VOk.arith (op := .lss) (k := .i64) (a := x4_2) (b := (a0.length : Int)) rfl rfl rfl rfl) rfl rfl ?_
      refine .cv (VOk.mv (d := (.v (.bool (decide (x4_2 < (a0.length : Int)))))) rfl rfl) rfl rfl ?_
      refine OpsOk.consI rfl rfl rfl (.one rfl) rfl (fun hw6 => (VOk.g (VOk.mv (d := (.v (.int .i64 x3_1))) rfl rfl))) ?_
      refine OpsOk.consI rfl rfl rfl (.one rfl) rfl (fun hw6 => (GOk.fr (fr' := [(13, (.v (.int .i64 x3_1)))]) ⟨DLe.of_eq (cT hw6).symm, trivial⟩ (VOk.g (VOk.arith (op := .lss) (k := .i64) (a := x3_1) (b := 5000) rfl rfl rfl rfl)))) ?_
      refine .cv (VOk.to (VOk.pickI (b := (decide (x4_2 < (a0.length : Int)))) (p := (decide (x3_1 < 5000))) (q := false) rfl rfl (fun hp7 => (cT (t_beq hp7))) (fun hp7 => rfl)) (pickAnd (decide (x4_2 < (a0.length : Int))) (decide (x3_1 < 5000)))) rfl rfl ?_
      exact .done (.rf rfl rfl)
    refine Ok.test (b := ((decide (x4_2 < (a0.length : Int))) && (decide (x3_1 < 5000)))) rfl (fun hb10 => ?_) (fun hb10 => ?_)
    · replace H := ifT H hb10
      refine Ok.skip ?_
      refine Ok.seq ?_
      refine Ok.block ?_
      obtain ⟨c8, H⟩ := assertE H
      obtain ⟨c9, H⟩ := assertE H
      refine Ok.drawE (σ' := ⟨[(0, (L 2 e_api_Field a0)), (3, (.v (.int .i64 (IntKind.i64.wrap ((IntKind.i64.wrap (x3_1 + (if 5000 < (((rd a0 x4_2).Name).length : Int) then 5000 else (((rd a0 x4_2).Name).length : Int)))) + (if 5000 < (((rd a0 x4_2).Value).length : Int) then 5000 else (((rd a0 x4_2).Value).length : Int))))))), (4, (.v (.int .i64 x4_2)))], []⟩) [⟨true, [(3, (.v (.int .i64 x3_1)))], (.v (.int .i64 x3_1))⟩, ⟨true, [(0, (L 2 e_api_Field a0))], (L 2 e_api_Field a0)⟩, ⟨true, [(4, (.v (.int .i64 x4_2)))], (.v (.int .i64 x4_2))⟩, ⟨true, [(19, (L 2 e_api_Field a0)), (20, (.v (.int .i64 x4_2)))], (.fp (e_api_Field (rd a0 x4_2)) 0)⟩, ⟨true, [(21, (.fp (e_api_Field (rd a0 x4_2)) 0))], (.fp (e_api_Field (rd a0 x4_2)) 0)⟩, ⟨true, [(22, (.fp (e_api_Field (rd a0 x4_2)) 0))], (S ((rd a0 x4_2).Name))⟩, ⟨true, [(23, (S ((rd a0 x4_2).Name)))], (.v (.int .i64 (((rd a0 x4_2).Name).length : Int)))⟩, ⟨true, [(24, (.v (.int .i64 (((rd a0 x4_2).Name).length : Int))))], (.v (.int .i64 (if 5000 < (((rd a0 x4_2).Name).length : Int) then 5000 else (((rd a0 x4_2).Name).length : Int))))⟩, ⟨true, [(18, (.v (.int .i64 x3_1))), (25, (.v (.int .i64 (if 5000 < (((rd a0 x4_2).Name).length : Int) then 5000 else (((rd a0 x4_2).Name).length : Int)))))], (.v (.int .i64 (IntKind.i64.wrap (x3_1 + (if 5000 < (((rd a0 x4_2).Name).length : Int) then 5000 else (((rd a0 x4_2).Name).length : Int))))))⟩, ⟨true, [(0, (L 2 e_api_Field a0))], (L 2 e_api_Field a0)⟩, ⟨true, [(4, (.v (.int .i64 x4_2)))], (.v (.int .i64 x4_2))⟩, ⟨true, [(27, (L 2 e_api_Field a0)), (28, (.v (.int .i64 x4_2)))], (.fp (e_api_Field (rd a0 x4_2)) 0)⟩, ⟨true, [(29, (.fp (e_api_Field (rd a0 x4_2)) 0))], (.fp (e_api_Field (rd a0 x4_2)) 1)⟩, ⟨true, [(30, (.fp (e_api_Field (rd a0 x4_2)) 1))], (S ((rd a0 x4_2).Value))⟩, ⟨true, [(31, (S ((rd a0 x4_2).Value)))], (.v (.int .i64 (((rd a0 x4_2).Value).length : Int)))⟩, ⟨true, [(32, (.v (.int .i64 (((rd a0 x4_2).Value).length : Int))))], (.v (.int .i64 (if 5000 < (((rd a0 x4_2).Value).length : Int) then 5000 else (((rd a0 x4_2).Value).length : Int))))⟩, ⟨true, [(26, (.v (.int .i64 (IntKind.i64.wrap (x3_1 + (if 5000 < (((rd a0 x4_2).Name).length : Int) then 5000 else (((rd a0 x4_2).Name).length : Int))))))), (33, (.v (.int .i64 (if 5000 < (((rd a0 x4_2).Value).length : Int) then 5000 else (((rd a0 x4_2).Value).length : Int)))))], (.v (.int .i64 (IntKind.i64.wrap ((IntKind.i64.wrap (x3_1 + (if 5000 < (((rd a0 x4_2).Name).length : Int) then 5000 else (((rd a0 x4_2).Name).length : Int)))) + (if 5000 < (((rd a0 x4_2).Value).length : Int) then 5000 else (((rd a0 x4_2).Value).length : Int))))))⟩, ⟨true, [(34, (.v (.int .i64 (IntKind.i64.wrap ((IntKind.i64.wrap (x3_1 + (if 5000 < (((rd a0 x4_2).Name).length : Int) then 5000 else (((rd a0 x4_2).Name).length : Int)))) + (if 5000 < (((rd a0 x4_2).Value).length : Int) then 5000 else (((rd a0 x4_2).Value).length : Int)))))))], (.v (.int .i64 (IntKind.i64.wrap ((IntKind.i64.wrap (x3_1 + (if 5000 < (((rd a0 x4_2).Name).length : Int) then 5000 else (((rd a0 x4_2).Name).length : Int)))) + (if 5000 < (((rd a0 x4_2).Value).length : Int) then 5000 else (((rd a0 x4_2).Value).length : Int))))))⟩] [[], [], [], [1, 2], [3], [4], [5], [6], [0, 7], [], [], [9, 10], [11], [12], [13], [14], [8, 15], [0, 16]] mixed (by kernel_rfl) ?_ ?_
      · refine TxtE.cons rfl ⟨.same _, trivial⟩ rfl (VOk.g (VOk.mv (d := (.v (.int .i64 x3_1))) rfl rfl)) ?_
        refine TxtE.cons rfl ⟨.same _, trivial⟩ rfl (VOk.g (VOk.mv (d := (L 2 e_api_Field a0)) rfl rfl)) ?_
        refine TxtE.cons rfl ⟨.same _, trivial⟩ rfl (VOk.g (VOk.mv (d := (.v (.int .i64 x4_2))) rfl rfl)) ?_
        refine TxtE.cons rfl ⟨.same _, .same _, trivial⟩ rfl (VOk.g (VOk.indexL (sz := 2) (e := e_api_Field) (xs := a0) (i := x4_2) rfl Tryd.underlying22 sz34 rfl rfl c8)) ?_
        refine TxtE.cons rfl ⟨.same _, trivial⟩ rfl (VOk.g (VOk.to (VOk.fieldFp rfl Tryd.underlying34 rfl sz9 rfl) rfl)) ?_
        refine TxtE.cons rfl ⟨.same _, trivial⟩ rfl (VOk.g (VOk.loadFp (d := (S ((rd a0 x4_2).Name))) rfl Tryd.underlying9 rfl rfl rfl)) ?_
        refine TxtE.cons rfl ⟨.same _, trivial⟩ rfl (VOk.g (VOk.lenStr (s := (rd a0 x4_2).Name) rfl Tryd.underlying9 rfl)) ?_
        refine TxtE.cons rfl ⟨.same _, trivial⟩ rfl (VOk.g (VOk.min2 (a := (((rd a0 x4_2).Name).length : Int)) (b := 5000) rfl rfl rfl)) ?_
        refine TxtE.cons rfl ⟨.same _, .same _, trivial⟩ rfl (VOk.g (VOk.arith (op := .add) (k := .i64) (a := x3_1) (b := (if 5000 < (((rd a0 x4_2).Name).length : Int) then 5000 else (((rd a0 x4_2).Name).length : Int))) rfl rfl rfl rfl)) ?_
        refine TxtE.cons rfl ⟨.same _, trivial⟩ rfl (VOk.g (VOk.mv (d := (L 2 e_api_Field a0)) rfl rfl)) ?_
        refine TxtE.cons rfl ⟨.same _, trivial⟩ rfl (VOk.g (VOk.mv (d := (.v (.int .i64 x4_2))) rfl rfl)) ?_
        refine TxtE.cons rfl ⟨.same _, .same _, trivial⟩ rfl (VOk.g (VOk.indexL (sz := 2) (e := e_api_Field) (xs := a0) (i := x4_2) rfl Tryd.underlying22 sz34 rfl rfl c9)) ?_
        refine TxtE.cons rfl ⟨.same _, trivial⟩ rfl (VOk.g (VOk.to (VOk.fieldFp rfl Tryd.underlying34 rfl sz9 rfl) rfl)) ?_
        refine TxtE.cons rfl ⟨.same _, trivial⟩ rfl (VOk.g (VOk.loadFp (d := (S ((rd a0 x4_2).Value))) rfl Tryd.underlying9 rfl rfl rfl)) ?_
        refine TxtE.cons rfl ⟨.same _, trivial⟩ rfl (VOk.g (VOk.lenStr (s := (rd a0 x4_2).Value) rfl Tryd.underlying9 rfl)) ?_
        refine TxtE.cons rfl ⟨.same _, trivial⟩ rfl (VOk.g (VOk.min2 (a := (((rd a0 x4_2).Value).length : Int)) (b := 5000) rfl rfl rfl)) ?_
        refine TxtE.cons rfl ⟨.same _, .same _, trivial⟩ rfl (VOk.g (VOk.arith (op := .add) (k := .i64) (a := (IntKind.i64.wrap (x3_1 + (if 5000 < (((rd a0 x4_2).Name).length : Int) then 5000 else (((rd a0 x4_2).Name).length : Int))))) (b := (if 5000 < (((rd a0 x4_2).Value).length : Int) then 5000 else (((rd a0 x4_2).Value).length : Int))) rfl rfl rfl rfl)) ?_
        refine TxtE.cons rfl ⟨.same _, trivial⟩ rfl (VOk.g (VOk.asg (d := (.v (.int .i64 (IntKind.i64.wrap ((IntKind.i64.wrap (x3_1 + (if 5000 < (((rd a0 x4_2).Name).length : Int) then 5000 else (((rd a0 x4_2).Name).length : Int)))) + (if 5000 < (((rd a0 x4_2).Value).length : Int) then 5000 else (((rd a0 x4_2).Value).length : Int))))))) rfl rfl)) ?_
        exact .done (.rf rfl rfl)
      refine Ok.region (σ' := ⟨[(0, (L 2 e_api_Field a0)), (3, (.v (.int .i64 (IntKind.i64.wrap ((IntKind.i64.wrap (x3_1 + (if 5000 < (((rd a0 x4_2).Name).length : Int) then 5000 else (((rd a0 x4_2).Name).length : Int)))) + (if 5000 < (((rd a0 x4_2).Value).length : Int) then 5000 else (((rd a0 x4_2).Value).length : Int))))))), (4, (.v (.int .i64 (IntKind.i64.wrap (x4_2 + 1)))))], []⟩) ?_ ?_
      · refine .cv (VOk.mv (d := (.v (.int .i64 x4_2))) rfl rfl) rfl rfl ?_
        refine .cv (VOk.arith (op := .add) (k := .i64) (a := x4_2) (b := 1) rfl rfl rfl rfl) rfl rfl ?_
        refine .cv (VOk.asg (d := (.v (.int .i64 (IntKind.i64.wrap (x4_2 + 1))))) rfl rfl) rfl rfl ?_
        exact .done (.rf rfl rfl)
      exact ⟨m5, Nat.lt_succ_self m5, (IntKind.i64.wrap ((IntKind.i64.wrap (x3_1 + (if 5000 < (((rd a0 x4_2).Name).length : Int) then 5000 else (((rd a0 x4_2).Name).length : Int)))) + (if 5000 < (((rd a0 x4_2).Value).length : Int) then 5000 else (((rd a0 x4_2).Value).length : Int)))), (IntKind.i64.wrap (x4_2 + 1)), rfl, H⟩
    · replace H := ifF H hb10
      refine Ok.exit ?_
      refine Ok.seq ?_
      refine Ok.region (σ' := ⟨[(2, (.v (.bool (decide (x3_1 < 5000)))))], []⟩) ?_ ?_
      · refine .cv (VOk.mv (d := (.v (.int .i64 x3_1))) rfl rfl) rfl rfl ?_
        refine .cv (VOk.arith (op := .lss) (k := .i64) (a := x3_1) (b := 5000) rfl rfl rfl rfl) rfl rfl ?_
        refine .cv (VOk.asg (d := (.v (.bool (decide (x3_1 < 5000))))) rfl rfl) rfl rfl ?_
        exact .done (.rf rfl rfl)
      refine Ok.ret ?_
      obtain rfl := Option.some.inj H
      exact ⟨.inl rfl, ⟨_, (.cons (.tmp rfl) .nil), rfl⟩, trivial⟩

/-! watchbill/watchbillref07.Fields: function 12 -/
def watchbillref07_Fields.l0 (k : Nat) (a0 : List T_api_Field) (a1 : List T_api_Field) : Nat → Int → Option Bool
  | 0, _ => none
  | m3 + 1, x5_1 => (if (decide (x5_1 < (a0.length : Int))) = true then (if (0 : Int) ≤ x5_1 ∧ x5_1 < (a0.length : Int) then (if (0 : Int) ≤ x5_1 ∧ x5_1 < (a1.length : Int) then (if (!((rd a0 x5_1).Name == (rd a1 x5_1).Name && ((rd a0 x5_1).Value == (rd a1 x5_1).Value && true))) = true then some false else watchbillref07_Fields.l0 k a0 a1 m3 (IntKind.i64.wrap (x5_1 + 1))) else none) else none) else some true)
def watchbillref07_Fields (k : Nat) (a0 : List T_api_Field) (a1 : List T_api_Field) : Option Bool := (if ((a0.length : Int) != (a1.length : Int)) = true then some false else watchbillref07_Fields.l0 k a0 a1 k 0)
theorem watchbillref07_Fields.ok {k : Nat} {a0 : List T_api_Field} {a1 : List T_api_Field} {r : Bool} (H : watchbillref07_Fields k a0 a1 = some r) : Vx.Fn Tryd.prog 12 [(L 2 e_api_Field a0), (L 2 e_api_Field a1)] [] (.v (.bool r)) [] := by
  unfold watchbillref07_Fields at H
  refine Vx.Fn.of_okR Tryd.func12 rfl (Nat.le_of_ble_eq_true rfl) ?_
  refine Ok.seq ?_
  refine Ok.region (σ' := ⟨[(0, (L 2 e_api_Field a0)), (1, (L 2 e_api_Field a1))], []⟩) ?_ ?_
  · refine .cv (VOk.asg (d := (.v (.bool false))) rfl rfl) rfl rfl ?_
    exact .done (.rf rfl rfl)
  refine Ok.seq ?_
  refine Ok.seq ?_
  refine Ok.region (σ' := ⟨[(0, (L 2 e_api_Field a0)), (1, (L 2 e_api_Field a1)), (10, (.v (.bool ((a0.length : Int) != (a1.length : Int)))))], []⟩) ?_ ?_
  · refine .cv (VOk.mv (d := (L 2 e_api_Field a0)) rfl rfl) rfl rfl ?_
    refine .cv (VOk.lenL (e := e_api_Field) (xs := a0) rfl Tryd.underlying22 rfl) rfl rfl ?_
    refine .cv (VOk.mv (d := (L 2 e_api_Field a1)) rfl rfl) rfl rfl ?_
    refine .cv (VOk.lenL (e := e_api_Field) (xs := a1) rfl Tryd.underlying22 rfl) rfl rfl ?_
    refine .cv (VOk.arith (op := .neq) (k := .i64) (a := (a0.length : Int)) (b := (a1.length : Int)) rfl rfl rfl rfl) rfl rfl ?_
    exact .done (.rf rfl rfl)
  refine Ok.test (b := ((a0.length : Int) != (a1.length : Int))) rfl (fun hb8 => ?_) (fun hb8 => ?_)
  · replace H := ifT H hb8
    refine Ok.seq ?_
    refine Ok.region (σ' := ⟨[(4, (.v (.bool false)))], []⟩) ?_ ?_
    · refine .cv (VOk.asg (d := (.v (.bool false))) rfl rfl) rfl rfl ?_
      exact .done (.rf rfl rfl)
    refine Ok.ret ?_
    obtain rfl := Option.some.inj H
    exact ⟨.inl rfl, ⟨_, (.cons (.tmp rfl) .nil), rfl⟩, trivial⟩
  · replace H := ifF H hb8
    refine Ok.skip ?_
    refine Ok.seq ?_
    refine Ok.seq ?_
    refine Ok.region (σ' := ⟨[(0, (L 2 e_api_Field a0)), (1, (L 2 e_api_Field a1)), (5, (.v (.int .i64 0)))], []⟩) ?_ ?_
    · refine .cv (VOk.asg (d := (.v (.int .i64 0))) rfl rfl) rfl rfl ?_
      exact .done (.rf rfl rfl)
    refine Ok.block ?_
    refine Ok.le (σ' := ⟨[(0, (L 2 e_api_Field a0)), (1, (L 2 e_api_Field a1)), (5, (.v (.int .i64 0)))], []⟩) (.rf rfl rfl) ?_
    refine Ok.loop (fun m3 σ => ∃ (x5_1 : Int), σ = ⟨[(0, (L 2 e_api_Field a0)), (1, (L 2 e_api_Field a1)), (5, (.v (.int .i64 x5_1)))], []⟩ ∧ watchbillref07_Fields.l0 k a0 a1 m3 x5_1 = some r) k ⟨0, rfl, H⟩ ?_
    rintro m3 σ ⟨x5_1, rfl, H⟩
    cases m3 with
    | zero => exact absurd H (by simp [watchbillref07_Fields.l0])
    | succ m3 =>
      unfold watchbillref07_Fields.l0 at H
      refine Ok.seq ?_
      refine Ok.seq ?_
      refine Ok.region (σ' := ⟨[(0, (L 2 e_api_Field a0)), (1, (L 2 e_api_Field a1)), (5, (.v (.int .i64 x5_1))), (14, (.v (.bool (decide (x5_1 < (a0.length : Int))))))], []⟩) ?_ ?_
      · refine .cv (VOk.mv (d := (.v (.int .i64 x5_1))) rfl rfl) rfl rfl ?_
        refine .cv (VOk.mv (d := (L 2 e_api_Field a0)) rfl rfl) rfl rfl ?_
        refine .cv (VOk.lenL (e := e_api_Field) (xs := a0) rfl Tryd.underlying22 rfl) rfl rfl ?_
        refine .cv (VOk.arith (op := .lss) (k := .i64) (a := x5_1) (b := (a0.length : Int)) rfl rfl rfl rfl) rfl rfl ?_
        exact .done (.rf rfl rfl)
      refine Ok.test (b := (decide (x5_1 < (a0.length : Int)))) rfl (fun hb7 => ?_) (fun hb7 => ?_)
      · replace H := ifT H hb7
        refine Ok.skip ?_
        refine Ok.seq ?_
        refine Ok.block ?_
        refine Ok.seq ?_
        obtain ⟨c4, H⟩ := assertE H
        obtain ⟨c5, H⟩ := assertE H
        refine Ok.drawE (σ' := ⟨[(0, (L 2 e_api_Field a0)), (1, (L 2 e_api_Field a1)), (5, (.v (.int .i64 x5_1))), (25, (.v (.bool (!((rd a0 x5_1).Name == (rd a1 x5_1).Name && ((rd a0 x5_1).Value == (rd a1 x5_1).Value && true))))))], []⟩) [⟨true, [(0, (L 2 e_api_Field a0))], (L 2 e_api_Field a0)⟩, ⟨true, [(5, (.v (.int .i64 x5_1)))], (.v (.int .i64 x5_1))⟩, ⟨true, [(17, (L 2 e_api_Field a0)), (18, (.v (.int .i64 x5_1)))], (.fp (e_api_Field (rd a0 x5_1)) 0)⟩, ⟨true, [(19, (.fp (e_api_Field (rd a0 x5_1)) 0))], (.agg (e_api_Field (rd a0 x5_1)))⟩, ⟨true, [(1, (L 2 e_api_Field a1))], (L 2 e_api_Field a1)⟩, ⟨true, [(5, (.v (.int .i64 x5_1)))], (.v (.int .i64 x5_1))⟩, ⟨true, [(21, (L 2 e_api_Field a1)), (22, (.v (.int .i64 x5_1)))], (.fp (e_api_Field (rd a1 x5_1)) 0)⟩, ⟨true, [(23, (.fp (e_api_Field (rd a1 x5_1)) 0))], (.agg (e_api_Field (rd a1 x5_1)))⟩, ⟨true, [(20, (.agg (e_api_Field (rd a0 x5_1)))), (24, (.agg (e_api_Field (rd a1 x5_1))))], (.v (.bool (!((rd a0 x5_1).Name == (rd a1 x5_1).Name && ((rd a0 x5_1).Value == (rd a1 x5_1).Value && true)))))⟩] [[], [], [0, 1], [2], [], [], [4, 5], [6], [3, 7]] mixed (by kernel_rfl) ?_ ?_
        · refine TxtE.cons rfl ⟨.same _, trivial⟩ rfl (VOk.g (VOk.mv (d := (L 2 e_api_Field a0)) rfl rfl)) ?_
          refine TxtE.cons rfl ⟨.same _, trivial⟩ rfl (VOk.g (VOk.mv (d := (.v (.int .i64 x5_1))) rfl rfl)) ?_
          refine TxtE.cons rfl ⟨.same _, .same _, trivial⟩ rfl (VOk.g (VOk.indexL (sz := 2) (e := e_api_Field) (xs := a0) (i := x5_1) rfl Tryd.underlying22 sz34 rfl rfl c4)) ?_
          refine TxtE.cons rfl ⟨.same _, trivial⟩ rfl (VOk.g (VOk.to (d' := (.agg (e_api_Field (rd a0 x5_1)))) (.loadFpAgg rfl Tryd.underlying34 rfl sz34 rfl rfl) rfl)) ?_
          refine TxtE.cons rfl ⟨.same _, trivial⟩ rfl (VOk.g (VOk.mv (d := (L 2 e_api_Field a1)) rfl rfl)) ?_
          refine TxtE.cons rfl ⟨.same _, trivial⟩ rfl (VOk.g (VOk.mv (d := (.v (.int .i64 x5_1))) rfl rfl)) ?_
          refine TxtE.cons rfl ⟨.same _, .same _, trivial⟩ rfl (VOk.g (VOk.indexL (sz := 2) (e := e_api_Field) (xs := a1) (i := x5_1) rfl Tryd.underlying22 sz34 rfl rfl c5)) ?_
          refine TxtE.cons rfl ⟨.same _, trivial⟩ rfl (VOk.g (VOk.to (d' := (.agg (e_api_Field (rd a1 x5_1)))) (.loadFpAgg rfl Tryd.underlying34 rfl sz34 rfl rfl) rfl)) ?_
          refine TxtE.cons rfl ⟨.same _, .same _, trivial⟩ rfl (VOk.g (VOk.eqS' (op := .neq) (d := (.v (.bool (!((rd a0 x5_1).Name == (rd a1 x5_1).Name && ((rd a0 x5_1).Value == (rd a1 x5_1).Value && true)))))) rfl (.inr rfl) (eqt34 9998) ag34 eg34 rfl rfl rfl rfl)) ?_
          exact .done (.rf rfl rfl)
        refine Ok.test (b := (!((rd a0 x5_1).Name == (rd a1 x5_1).Name && ((rd a0 x5_1).Value == (rd a1 x5_1).Value && true)))) rfl (fun hb6 => ?_) (fun hb6 => ?_)
        · replace H := ifT H hb6
          refine Ok.seq ?_
          refine Ok.region (σ' := ⟨[(4, (.v (.bool false)))], []⟩) ?_ ?_
          · refine .cv (VOk.asg (d := (.v (.bool false))) rfl rfl) rfl rfl ?_
            exact .done (.rf rfl rfl)
          refine Ok.ret ?_
          obtain rfl := Option.some.inj H
          exact ⟨.inl rfl, ⟨_, (.cons (.tmp rfl) .nil), rfl⟩, trivial⟩
        · replace H := ifF H hb6
          refine Ok.skip ?_
          refine Ok.region (σ' := ⟨[(0, (L 2 e_api_Field a0)), (1, (L 2 e_api_Field a1)), (5, (.v (.int .i64 (IntKind.i64.wrap (x5_1 + 1)))))], []⟩) ?_ ?_
          · refine .cv (VOk.mv (d := (.v (.int .i64 x5_1))) rfl rfl) rfl rfl ?_
            refine .cv (VOk.arith (op := .add) (k := .i64) (a := x5_1) (b := 1) rfl rfl rfl rfl) rfl rfl ?_
            refine .cv (VOk.asg (d := (.v (.int .i64 (IntKind.i64.wrap (x5_1 + 1))))) rfl rfl) rfl rfl ?_
            exact .done (.rf rfl rfl)
          exact ⟨m3, Nat.lt_succ_self m3, (IntKind.i64.wrap (x5_1 + 1)), rfl, H⟩
      · replace H := ifF H hb7
        refine Ok.exit ?_
        refine Ok.seq ?_
        refine Ok.region (σ' := ⟨[(4, (.v (.bool true)))], []⟩) ?_ ?_
        · refine .cv (VOk.asg (d := (.v (.bool true))) rfl rfl) rfl rfl ?_
          exact .done (.rf rfl rfl)
        refine Ok.ret ?_
        obtain rfl := Option.some.inj H
        exact ⟨.inl rfl, ⟨_, (.cons (.tmp rfl) .nil), rfl⟩, trivial⟩

/-! watchbill/watchbilllaw07.FieldBack: function 3 -/
def watchbilllaw07_FieldBack.j2 (c1 : Int → Int → Int → Option Bool) (t7 : Str × Int) (x15_26 : Int) (x17_28 : Int) (x16_37 : Int) : Option Bool := (if ((decide ((IntKind.i64.wrap (x15_26 + 1)) > 76)) && (decide (x16_37 > 1))) = true then some false else c1 (IntKind.i64.wrap (x15_26 + 1)) x16_37 (IntKind.i64.wrap (x17_28 + 1)))
def watchbilllaw07_FieldBack.l1 (k : Nat) (t7 : Str × Int) : Nat → Int → Int → Int → Option Bool
  | 0, _, _, _ => none
  | m32 + 1, x15_26, x16_27, x17_28 => (if (decide (x17_28 < (t7.1.length : Int))) = true then (if (0 : Int) ≤ x17_28 ∧ x17_28 < (t7.1.length : Int) then (if ((((bt t7.1 x17_28) == 13) == false) = true → (0 : Int) ≤ x17_28 ∧ x17_28 < (t7.1.length : Int)) then (if (((bt t7.1 x17_28) == 13) || ((bt t7.1 x17_28) == 10)) = true then watchbilllaw07_FieldBack.l1 k t7 m32 0 0 (IntKind.i64.wrap (x17_28 + 1)) else (if (0 : Int) ≤ x17_28 ∧ x17_28 < (t7.1.length : Int) then (if ((bt t7.1 x17_28) == 32) = true then watchbilllaw07_FieldBack.j2 (watchbilllaw07_FieldBack.l1 k t7 m32) t7 x15_26 x17_28 (IntKind.i64.wrap (x16_27 + 1)) else watchbilllaw07_FieldBack.j2 (watchbilllaw07_FieldBack.l1 k t7 m32) t7 x15_26 x17_28 x16_27) else none)) else none) else none) else some true)
def watchbilllaw07_FieldBack.l0 (k : Nat) (t7 : Str × Int) : Nat → Int → Option Bool
  | 0, _ => none
  | m20 + 1, x65_18 => (if (decide (x65_18 < 3)) = true then (if (0 : Int) ≤ x65_18 ∧ x65_18 < (([0, (IntKind.i64.wrap (((t7.1.length : Int)).tdiv 2)), (IntKind.i64.wrap ((t7.1.length : Int) - 1))] : List Int).length : Int) then (if (0 : Int) ≤ 0 ∧ (0 : Int) ≤ (rd ([0, (IntKind.i64.wrap (((t7.1.length : Int)).tdiv 2)), (IntKind.i64.wrap ((t7.1.length : Int) - 1))] : List Int) x65_18) ∧ (rd ([0, (IntKind.i64.wrap (((t7.1.length : Int)).tdiv 2)), (IntKind.i64.wrap ((t7.1.length : Int) - 1))] : List Int) x65_18) ≤ (t7.1.length : Int) then ((field_Parse k (sl t7.1 0 (rd ([0, (IntKind.i64.wrap (((t7.1.length : Int)).tdiv 2)), (IntKind.i64.wrap ((t7.1.length : Int) - 1))] : List Int) x65_18))).bind fun (t23 : (List T_api_Field) × Str × Int) => (if (t23.2.2 != 2) = true then some false else watchbilllaw07_FieldBack.l0 k t7 m20 (IntKind.i64.wrap (x65_18 + 1)))) else none) else none) else watchbilllaw07_FieldBack.l1 k t7 k 0 0 0)
def watchbilllaw07_FieldBack (k : Nat) (a0 : List T_api_Field) (a1 : Str) : Option Bool := ((watchbilllaw07_awake k).bind fun (t1 : Bool) => (if (!t1) = true then some false else ((watchbilllaw07_Few k a0).bind fun (t3 : Bool) => (if ((!t3) || (decide ((a1.length : Int) > 2000))) = true then some true else ((field_Print k a0).bind fun (t7 : Str × Int) => (if (t7.2 != 0) = true then some (t7.1 == ([] : Str)) else (if t7.1.length + a1.length ≤ 9223372036854775807 then ((field_Parse k (t7.1 ++ a1)).bind fun (t10 : (List T_api_Field) × Str × Int) => ((watchbillref07_Fields k t10.1 a0).bind fun (t12 : Bool) => (if (((!t12) || (!(t10.2.1 == a1))) || (t10.2.2 != 0)) = true then some false else watchbilllaw07_FieldBack.l0 k t7 k 0))) else none)))))))
theorem watchbilllaw07_FieldBack.ok {k : Nat} {a0 : List T_api_Field} {a1 : Str} {r : Bool} (H : watchbilllaw07_FieldBack k a0 a1 = some r) : Vx.Fn Tryd.prog 3 [(L 2 e_api_Field a0), (S a1)] [] (.v (.bool r)) [] := by
  unfold watchbilllaw07_FieldBack at H
  refine Vx.Fn.of_okR Tryd.func3 rfl (Nat.le_of_ble_eq_true rfl) ?_
  refine Ok.seq ?_
  refine Ok.region (σ' := ⟨[(0, (L 2 e_api_Field a0)), (1, (S a1))], []⟩) ?_ ?_
  · refine .cv (VOk.asg (d := (.v (.bool false))) rfl rfl) rfl rfl ?_
    exact .done (.rf rfl rfl)
  refine Ok.seq ?_
  refine Ok.seq ?_
  obtain ⟨t1, h2, H⟩ := bindE H
  refine Ok.region (σ' := ⟨[(0, (L 2 e_api_Field a0)), (1, (S a1)), (19, (.v (.bool (!t1))))], []⟩) ?_ ?_
  · refine .cg (GOk.call rfl rfl cl8 rfl (watchbilllaw07_awake.ok h2) rfl) rfl rfl ?_
    refine .cv (VOk.not (b := t1) rfl rfl) rfl rfl ?_
    exact .done (.rf rfl rfl)
  refine Ok.test (b := (!t1)) rfl (fun hb49 => ?_) (fun hb49 => ?_)
  · replace H := ifT H hb49
    refine Ok.seq ?_
    refine Ok.region (σ' := ⟨[(4, (.v (.bool false)))], []⟩) ?_ ?_
    · refine .cv (VOk.asg (d := (.v (.bool false))) rfl rfl) rfl rfl ?_
      exact .done (.rf rfl rfl)
    refine Ok.ret ?_
    obtain rfl := Option.some.inj H
    exact ⟨.inl rfl, ⟨_, (.cons (.tmp rfl) .nil), rfl⟩, trivial⟩
  · replace H := ifF H hb49
    refine Ok.skip ?_
    refine Ok.seq ?_
    refine Ok.seq ?_
    obtain ⟨t3, h4, H⟩ := bindE H
    refine Ok.region (σ' := ⟨[(0, (L 2 e_api_Field a0)), (1, (S a1)), (27, (.v (.bool ((!t3) || (decide ((a1.length : Int) > 2000))))))], []⟩) ?_ ?_
    · refine .cv (VOk.mv (d := (L 2 e_api_Field a0)) rfl rfl) rfl rfl ?_
      refine .cg (GOk.call rfl rfl cl9 rfl (watchbilllaw07_Few.ok h4) rfl) rfl rfl ?_
      refine .cv (VOk.not (b := t3) rfl rfl) rfl rfl ?_
      refine .cv (VOk.mv (d := (.v (.bool (!t3)))) rfl rfl) rfl rfl ?_
      refine OpsOk.consI rfl rfl rfl (.one rfl) rfl (fun hw5 => (VOk.g (VOk.mv (d := (S a1)) rfl rfl))) ?_
      refine OpsOk.consI rfl rfl rfl (.one rfl) rfl (fun hw5 => (GOk.fr (fr' := [(24, (S a1))]) ⟨DLe.of_eq (cT hw5).symm, trivial⟩ (VOk.g (VOk.lenStr (s := a1) rfl Tryd.underlying9 rfl)))) ?_
      refine OpsOk.consI rfl rfl rfl (.one rfl) rfl (fun hw5 => (GOk.fr (fr' := [(25, (.v (.int .i64 (a1.length : Int))))]) ⟨DLe.of_eq (cT hw5).symm, trivial⟩ (VOk.g (VOk.arith (op := .gtr) (k := .i64) (a := (a1.length : Int)) (b := 2000) rfl rfl rfl rfl)))) ?_
      refine .cv (VOk.to (VOk.pickI (b := (!t3)) (p := true) (q := (decide ((a1.length : Int) > 2000))) rfl rfl (fun hp6 => rfl) (fun hp6 => (cT (f_beq hp6)))) (pickOr (!t3) (decide ((a1.length : Int) > 2000)))) rfl rfl ?_
      exact .done (.rf rfl rfl)
    refine Ok.test (b := ((!t3) || (decide ((a1.length : Int) > 2000)))) rfl (fun hb48 => ?_) (fun hb48 => ?_)
    · replace H := ifT H hb48
      refine Ok.seq ?_
      refine Ok.region (σ' := ⟨[(4, (.v (.bool true)))], []⟩) ?_ ?_
      · refine .cv (VOk.asg (d := (.v (.bool true))) rfl rfl) rfl rfl ?_
        exact .done (.rf rfl rfl)
      refine Ok.ret ?_
      obtain rfl := Option.some.inj H
      exact ⟨.inl rfl, ⟨_, (.cons (.tmp rfl) .nil), rfl⟩, trivial⟩
    · replace H := ifF H hb48
      refine Ok.skip ?_
      refine Ok.seq ?_
      obtain ⟨t7, h8, H⟩ := bindE H
      refine Ok.region (σ' := ⟨[(0, (L 2 e_api_Field a0)), (1, (S a1)), (5, (S t7.1)), (6, (.v (.int .i64 t7.2)))], []⟩) ?_ ?_
      · refine .cv (VOk.mv (d := (L 2 e_api_Field a0)) rfl rfl) rfl rfl ?_
        refine .cg (GOk.call rfl rfl cl10 rfl (field_Print.ok h8) rfl) rfl rfl ?_
        refine .cv (VOk.mv (d := (.tup [(S t7.1), (.v (.int .i64 t7.2))])) rfl rfl) rfl rfl ?_
        refine .cv (VOk.extract (d := (S t7.1)) rfl rfl rfl) rfl rfl ?_
        refine .cv (VOk.extract (d := (.v (.int .i64 t7.2))) rfl rfl rfl) rfl rfl ?_
        refine .cv (VOk.asg (d := (S t7.1)) rfl rfl) rfl rfl ?_
        refine .cv (VOk.asg (d := (.v (.int .i64 t7.2))) rfl rfl) rfl rfl ?_
        exact .done (.rf rfl rfl)
      refine Ok.seq ?_
      refine Ok.seq ?_
      refine Ok.region (σ' := ⟨[(0, (L 2 e_api_Field a0)), (1, (S a1)), (5, (S t7.1)), (34, (.v (.bool (t7.2 != 0))))], []⟩) ?_ ?_
      · refine .cv (VOk.mv (d := (.v (.int .i64 t7.2))) rfl rfl) rfl rfl ?_
        refine .cv (VOk.arith (op := .neq) (k := .i64) (a := t7.2) (b := 0) rfl rfl rfl rfl) rfl rfl ?_
        exact .done (.rf rfl rfl)
      refine Ok.test (b := (t7.2 != 0)) rfl (fun hb47 => ?_) (fun hb47 => ?_)
      · replace H := ifT H hb47
        refine Ok.seq ?_
        refine Ok.region (σ' := ⟨[(4, (.v (.bool (t7.1 == ([] : Str)))))], []⟩) ?_ ?_
        · refine .cv (VOk.mv (d := (S t7.1)) rfl rfl) rfl rfl ?_
          refine .cv (VOk.strOp (op := .eql) (a := t7.1) (b := ([] : Str)) rfl rfl rfl rfl) rfl rfl ?_
          refine .cv (VOk.asg (d := (.v (.bool (t7.1 == ([] : Str))))) rfl rfl) rfl rfl ?_
          exact .done (.rf rfl rfl)
        refine Ok.ret ?_
        obtain rfl := Option.some.inj H
        exact ⟨.inl rfl, ⟨_, (.cons (.tmp rfl) .nil), rfl⟩, trivial⟩
      · replace H := ifF H hb47
        refine Ok.skip ?_
        refine Ok.seq ?_
        obtain ⟨c9, H⟩ := assertE H
        obtain ⟨t10, h11, H⟩ := bindE H
        refine Ok.region (σ' := ⟨[(0, (L 2 e_api_Field a0)), (1, (S a1)), (5, (S t7.1)), (7, (L 2 e_api_Field t10.1)), (8, (S t10.2.1)), (9, (.v (.int .i64 t10.2.2)))], []⟩) ?_ ?_
        · refine .cv (VOk.mv (d := (S t7.1)) rfl rfl) rfl rfl ?_
          refine .cv (VOk.mv (d := (S a1)) rfl rfl) rfl rfl ?_
          refine .cv (VOk.cat (a := t7.1) (b := a1) rfl rfl rfl c9) rfl rfl ?_
          refine .cg (GOk.call rfl rfl cl11 rfl (field_Parse.ok h11) rfl) rfl rfl ?_
          refine .cv (VOk.mv (d := (.tup [(L 2 e_api_Field t10.1), (S t10.2.1), (.v (.int .i64 t10.2.2))])) rfl rfl) rfl rfl ?_
          refine .cv (VOk.extract (d := (L 2 e_api_Field t10.1)) rfl rfl rfl) rfl rfl ?_
          refine .cv (VOk.extract (d := (S t10.2.1)) rfl rfl rfl) rfl rfl ?_
          refine .cv (VOk.extract (d := (.v (.int .i64 t10.2.2))) rfl rfl rfl) rfl rfl ?_
          refine .cv (VOk.asg (d := (L 2 e_api_Field t10.1)) rfl rfl) rfl rfl ?_
          refine .cv (VOk.asg (d := (S t10.2.1)) rfl rfl) rfl rfl ?_
          refine .cv (VOk.asg (d := (.v (.int .i64 t10.2.2))) rfl rfl) rfl rfl ?_
          exact .done (.rf rfl rfl)
        refine Ok.seq ?_
        refine Ok.seq ?_
        obtain ⟨t12, h13, H⟩ := bindE H
        refine Ok.region (σ' := ⟨[(5, (S t7.1)), (57, (.v (.bool (((!t12) || (!(t10.2.1 == a1))) || (t10.2.2 != 0)))))], []⟩) ?_ ?_
        · refine .cv (VOk.mv (d := (L 2 e_api_Field t10.1)) rfl rfl) rfl rfl ?_
          refine .cv (VOk.mv (d := (L 2 e_api_Field a0)) rfl rfl) rfl rfl ?_
          refine .cg (GOk.call rfl rfl cl12 rfl (watchbillref07_Fields.ok h13) rfl) rfl rfl ?_
          refine .cv (VOk.not (b := t12) rfl rfl) rfl rfl ?_
          refine .cv (VOk.mv (d := (.v (.bool (!t12)))) rfl rfl) rfl rfl ?_
          refine OpsOk.consI rfl rfl rfl (.one rfl) rfl (fun hw14 => (VOk.g (VOk.mv (d := (S t10.2.1)) rfl rfl))) ?_
          refine OpsOk.consI rfl rfl rfl (.one rfl) rfl (fun hw14 => (VOk.g (VOk.mv (d := (S a1)) rfl rfl))) ?_
          refine OpsOk.consI rfl rfl rfl (.one rfl) rfl (fun hw14 => (GOk.fr (fr' := [(50, (S t10.2.1)), (51, (S a1))]) ⟨DLe.of_eq (cT hw14).symm, DLe.of_eq (cT hw14).symm, trivial⟩ (VOk.g (VOk.strOp (op := .neq) (a := t10.2.1) (b := a1) rfl rfl rfl rfl)))) ?_
          refine .cv (VOk.to (VOk.pickI (b := (!t12)) (p := true) (q := (!(t10.2.1 == a1))) rfl rfl (fun hp15 => rfl) (fun hp15 => (cT (f_beq hp15)))) (pickOr (!t12) (!(t10.2.1 == a1)))) rfl rfl ?_
          refine .cv (VOk.mv (d := (.v (.bool ((!t12) || (!(t10.2.1 == a1)))))) rfl rfl) rfl rfl ?_
          refine OpsOk.consI rfl rfl rfl (.one rfl) rfl (fun hw16 => (VOk.g (VOk.mv (d := (.v (.int .i64 t10.2.2))) rfl rfl))) ?_
          refine OpsOk.consI rfl rfl rfl (.one rfl) rfl (fun hw16 => (GOk.fr (fr' := [(55, (.v (.int .i64 t10.2.2)))]) ⟨DLe.of_eq (cT hw16).symm, trivial⟩ (VOk.g (VOk.arith (op := .neq) (k := .i64) (a := t10.2.2) (b := 0) rfl rfl rfl rfl)))) ?_
          refine .cv (VOk.to (VOk.pickI (b := ((!t12) || (!(t10.2.1 == a1)))) (p := true) (q := (t10.2.2 != 0)) rfl rfl (fun hp17 => rfl) (fun hp17 => (cT (f_beq hp17)))) (pickOr ((!t12) || (!(t10.2.1 == a1))) (t10.2.2 != 0))) rfl rfl ?_
          exact .done (.rf rfl rfl)
        refine Ok.test (b := (((!t12) || (!(t10.2.1 == a1))) || (t10.2.2 != 0))) rfl (fun hb46 => ?_) (fun hb46 => ?_)
        · replace H := ifT H hb46
          refine Ok.seq ?_
          refine Ok.region (σ' := ⟨[(4, (.v (.bool false)))], []⟩) ?_ ?_
          · refine .cv (VOk.asg (d := (.v (.bool false))) rfl rfl) rfl rfl ?_
            exact .done (.rf rfl rfl)
          refine Ok.ret ?_
          obtain rfl := Option.some.inj H
          exact ⟨.inl rfl, ⟨_, (.cons (.tmp rfl) .nil), rfl⟩, trivial⟩
        · replace H := ifF H hb46
          refine Ok.skip ?_
          refine Ok.seq ?_
          refine Ok.seq ?_
          refine Ok.region (σ' := ⟨[(5, (S t7.1)), (64, (.agg (List.map (fun a => D.v (.int .i64 a)) ([0, (IntKind.i64.wrap (((t7.1.length : Int)).tdiv 2)), (IntKind.i64.wrap ((t7.1.length : Int) - 1))] : List Int)))), (65, (.v (.int .i64 0)))], []⟩) ?_ ?_
          · refine .cv (VOk.mv (d := (S t7.1)) rfl rfl) rfl rfl ?_
            refine .cv (VOk.lenStr (s := t7.1) rfl Tryd.underlying9 rfl) rfl rfl ?_
            refine .cv (VOk.quo (a := (t7.1.length : Int)) (b := 2) rfl rfl rfl (by decide)) rfl rfl ?_
            refine .cv (VOk.mv (d := (S t7.1)) rfl rfl) rfl rfl ?_
            refine .cv (VOk.lenStr (s := t7.1) rfl Tryd.underlying9 rfl) rfl rfl ?_
            refine .cv (VOk.arith (op := .sub) (k := .i64) (a := (t7.1.length : Int)) (b := 1) rfl rfl rfl rfl) rfl rfl ?_
            refine .cv (VOk.to (d' := (.agg (List.map (fun a => D.v (.int .i64 a)) ([0, (IntKind.i64.wrap (((t7.1.length : Int)).tdiv 2)), (IntKind.i64.wrap ((t7.1.length : Int) - 1))] : List Int)))) (.buildA [none, none, none] [(0, 1), (1, 1), (2, 1)] rfl Tryd.underlying31 sz3 rfl zo31 rfl rfl) rfl) rfl rfl ?_
            refine .cv (VOk.mv (d := (.v (.int .i64 0))) rfl rfl) rfl rfl ?_
            exact .done (.rf rfl rfl)
          refine Ok.block ?_
          refine Ok.le (σ' := ⟨[(5, (S t7.1)), (64, (.agg (List.map (fun a => D.v (.int .i64 a)) ([0, (IntKind.i64.wrap (((t7.1.length : Int)).tdiv 2)), (IntKind.i64.wrap ((t7.1.length : Int) - 1))] : List Int)))), (65, (.v (.int .i64 0)))], []⟩) (.rf rfl rfl) ?_
          refine Ok.loop (fun m20 σ => ∃ (x65_18 : Int), σ = ⟨[(5, (S t7.1)), (64, (.agg (List.map (fun a => D.v (.int .i64 a)) ([0, (IntKind.i64.wrap (((t7.1.length : Int)).tdiv 2)), (IntKind.i64.wrap ((t7.1.length : Int) - 1))] : List Int)))), (65, (.v (.int .i64 x65_18)))], []⟩ ∧ watchbilllaw07_FieldBack.l0 k t7 m20 x65_18 = some r) k ⟨0, rfl, H⟩ ?_
          rintro m20 σ ⟨x65_18, rfl, H⟩
          cases m20 with
          | zero => exact absurd H (by simp [watchbilllaw07_FieldBack.l0])
          | succ m20 =>
            unfold watchbilllaw07_FieldBack.l0 at H
            refine Ok.seq ?_
            refine Ok.region (σ' := ⟨[(5, (S t7.1)), (64, (.agg (List.map (fun a => D.v (.int .i64 a)) ([0, (IntKind.i64.wrap (((t7.1.length : Int)).tdiv 2)), (IntKind.i64.wrap ((t7.1.length : Int) - 1))] : List Int)))), (65, (.v (.int .i64 x65_18))), (66, (.v (.bool (decide (x65_18 < 3)))))], []⟩) ?_ ?_
            · refine .cv (VOk.arith (op := .lss) (k := .i64) (a := x65_18) (b := 3) rfl rfl rfl rfl) rfl rfl ?_
              exact .done (.rf rfl rfl)
            refine Ok.seq ?_
            refine Ok.test (b := (decide (x65_18 < 3))) rfl (fun hb45 => ?_) (fun hb45 => ?_)
            · replace H := ifT H hb45
              refine Ok.skip ?_
              refine Ok.seq ?_
              refine Ok.block ?_
              refine Ok.seq ?_
              obtain ⟨c21, H⟩ := assertE H
              refine Ok.region (σ' := ⟨[(5, (S t7.1)), (11, (.v (.int .i64 (rd ([0, (IntKind.i64.wrap (((t7.1.length : Int)).tdiv 2)), (IntKind.i64.wrap ((t7.1.length : Int) - 1))] : List Int) x65_18)))), (64, (.agg (List.map (fun a => D.v (.int .i64 a)) ([0, (IntKind.i64.wrap (((t7.1.length : Int)).tdiv 2)), (IntKind.i64.wrap ((t7.1.length : Int) - 1))] : List Int)))), (65, (.v (.int .i64 x65_18)))], []⟩) ?_ ?_
              · refine .cv (VOk.to (d' := (.v (.int .i64 (rd ([0, (IntKind.i64.wrap (((t7.1.length : Int)).tdiv 2)), (IntKind.i64.wrap ((t7.1.length : Int) - 1))] : List Int) x65_18)))) (.indexA (f := (fun a => D.v (.int .i64 a))) (xs := ([0, (IntKind.i64.wrap (((t7.1.length : Int)).tdiv 2)), (IntKind.i64.wrap ((t7.1.length : Int) - 1))] : List Int)) (i := x65_18) rfl Tryd.underlying31 Tryd.underlying3 rfl sz3 rfl rfl rfl c21) rfl) rfl rfl ?_
                refine .cv (VOk.asg (d := (.v (.int .i64 (rd ([0, (IntKind.i64.wrap (((t7.1.length : Int)).tdiv 2)), (IntKind.i64.wrap ((t7.1.length : Int) - 1))] : List Int) x65_18)))) rfl rfl) rfl rfl ?_
                exact .done (.rf rfl rfl)
              refine Ok.seq ?_
              obtain ⟨c22, H⟩ := assertE H
              obtain ⟨t23, h24, H⟩ := bindE H
              refine Ok.region (σ' := ⟨[(5, (S t7.1)), (14, (.v (.int .i64 t23.2.2))), (64, (.agg (List.map (fun a => D.v (.int .i64 a)) ([0, (IntKind.i64.wrap (((t7.1.length : Int)).tdiv 2)), (IntKind.i64.wrap ((t7.1.length : Int) - 1))] : List Int)))), (65, (.v (.int .i64 x65_18)))], []⟩) ?_ ?_
              · refine .cv (VOk.mv (d := (S t7.1)) rfl rfl) rfl rfl ?_
                refine .cv (VOk.mv (d := (.v (.int .i64 (rd ([0, (IntKind.i64.wrap (((t7.1.length : Int)).tdiv 2)), (IntKind.i64.wrap ((t7.1.length : Int) - 1))] : List Int) x65_18)))) rfl rfl) rfl rfl ?_
                refine .cv (VOk.sliceStr (s := t7.1) (l := 0) (h := (rd ([0, (IntKind.i64.wrap (((t7.1.length : Int)).tdiv 2)), (IntKind.i64.wrap ((t7.1.length : Int) - 1))] : List Int) x65_18)) rfl Tryd.underlying9 rfl rfl rfl c22) rfl rfl ?_
                refine .cg (GOk.call rfl rfl cl11 rfl (field_Parse.ok h24) rfl) rfl rfl ?_
                refine .cv (VOk.mv (d := (.tup [(L 2 e_api_Field t23.1), (S t23.2.1), (.v (.int .i64 t23.2.2))])) rfl rfl) rfl rfl ?_
                refine .cv (VOk.extract (d := (L 2 e_api_Field t23.1)) rfl rfl rfl) rfl rfl ?_
                refine .cv (VOk.extract (d := (S t23.2.1)) rfl rfl rfl) rfl rfl ?_
                refine .cv (VOk.extract (d := (.v (.int .i64 t23.2.2))) rfl rfl rfl) rfl rfl ?_
                refine .cv (VOk.asg (d := (L 2 e_api_Field t23.1)) rfl rfl) rfl rfl ?_
                refine .cv (VOk.asg (d := (S t23.2.1)) rfl rfl) rfl rfl ?_
                refine .cv (VOk.asg (d := (.v (.int .i64 t23.2.2))) rfl rfl) rfl rfl ?_
                exact .done (.rf rfl rfl)
              refine Ok.seq ?_
              refine Ok.region (σ' := ⟨[(5, (S t7.1)), (64, (.agg (List.map (fun a => D.v (.int .i64 a)) ([0, (IntKind.i64.wrap (((t7.1.length : Int)).tdiv 2)), (IntKind.i64.wrap ((t7.1.length : Int) - 1))] : List Int)))), (65, (.v (.int .i64 x65_18))), (77, (.v (.bool (t23.2.2 != 2))))], []⟩) ?_ ?_
              · refine .cv (VOk.mv (d := (.v (.int .i64 t23.2.2))) rfl rfl) rfl rfl ?_
                refine .cv (VOk.arith (op := .neq) (k := .i64) (a := t23.2.2) (b := 2) rfl rfl rfl rfl) rfl rfl ?_
                exact .done (.rf rfl rfl)
              refine Ok.test (b := (t23.2.2 != 2)) rfl (fun hb25 => ?_) (fun hb25 => ?_)
              · replace H := ifT H hb25
                refine Ok.seq ?_
                refine Ok.region (σ' := ⟨[(4, (.v (.bool false)))], []⟩) ?_ ?_
                · refine .cv (VOk.asg (d := (.v (.bool false))) rfl rfl) rfl rfl ?_
                  exact .done (.rf rfl rfl)
                refine Ok.ret ?_
                obtain rfl := Option.some.inj H
                exact ⟨.inl rfl, ⟨_, (.cons (.tmp rfl) .nil), rfl⟩, trivial⟩
              · replace H := ifF H hb25
                refine Ok.skip ?_
                refine Ok.region (σ' := ⟨[(5, (S t7.1)), (64, (.agg (List.map (fun a => D.v (.int .i64 a)) ([0, (IntKind.i64.wrap (((t7.1.length : Int)).tdiv 2)), (IntKind.i64.wrap ((t7.1.length : Int) - 1))] : List Int)))), (65, (.v (.int .i64 (IntKind.i64.wrap (x65_18 + 1)))))], []⟩) ?_ ?_
                · refine .cv (VOk.arith (op := .add) (k := .i64) (a := x65_18) (b := 1) rfl rfl rfl rfl) rfl rfl ?_
                  refine .cv (VOk.mv (d := (.v (.int .i64 (IntKind.i64.wrap (x65_18 + 1))))) rfl rfl) rfl rfl ?_
                  exact .done (.rf rfl rfl)
                exact ⟨m20, Nat.lt_succ_self m20, (IntKind.i64.wrap (x65_18 + 1)), rfl, H⟩
            · replace H := ifF H hb45
              refine Ok.exit ?_
              refine Ok.seq ?_
              refine Ok.region (σ' := ⟨[(5, (S t7.1)), (15, (.v (.int .i64 0))), (16, (.v (.int .i64 0)))], []⟩) ?_ ?_
              · refine .cv (VOk.asg (d := (.v (.int .i64 0))) rfl rfl) rfl rfl ?_
                refine .cv (VOk.asg (d := (.v (.int .i64 0))) rfl rfl) rfl rfl ?_
                exact .done (.rf rfl rfl)
              refine Ok.seq ?_
              refine Ok.seq ?_
              refine Ok.region (σ' := ⟨[(5, (S t7.1)), (15, (.v (.int .i64 0))), (16, (.v (.int .i64 0))), (17, (.v (.int .i64 0)))], []⟩) ?_ ?_
              · refine .cv (VOk.asg (d := (.v (.int .i64 0))) rfl rfl) rfl rfl ?_
                exact .done (.rf rfl rfl)
              refine Ok.block ?_
              refine Ok.le (σ' := ⟨[(5, (S t7.1)), (15, (.v (.int .i64 0))), (16, (.v (.int .i64 0))), (17, (.v (.int .i64 0)))], []⟩) (.rf rfl rfl) ?_
              refine Ok.loop (fun m32 σ => ∃ (x15_26 : Int) (x16_27 : Int) (x17_28 : Int), σ = ⟨[(5, (S t7.1)), (15, (.v (.int .i64 x15_26))), (16, (.v (.int .i64 x16_27))), (17, (.v (.int .i64 x17_28)))], []⟩ ∧ watchbilllaw07_FieldBack.l1 k t7 m32 x15_26 x16_27 x17_28 = some r) k ⟨0, 0, 0, rfl, H⟩ ?_
              rintro m32 σ ⟨x15_26, x16_27, x17_28, rfl, H⟩
              cases m32 with
              | zero => exact absurd H (by simp [watchbilllaw07_FieldBack.l1])
              | succ m32 =>
                unfold watchbilllaw07_FieldBack.l1 at H
                refine Ok.seq ?_
                refine Ok.seq ?_
                refine Ok.region (σ' := ⟨[(5, (S t7.1)), (15, (.v (.int .i64 x15_26))), (16, (.v (.int .i64 x16_27))), (17, (.v (.int .i64 x17_28))), (82, (.v (.bool (decide (x17_28 < (t7.1.length : Int))))))], []⟩) ?_ ?_
                · refine .cv (VOk.mv (d := (.v (.int .i64 x17_28))) rfl rfl) rfl rfl ?_
                  refine .cv (VOk.mv (d := (S t7.1)) rfl rfl) rfl rfl ?_
                  refine .cv (VOk.lenStr (s := t7.1) rfl Tryd.underlying9 rfl) rfl rfl ?_
                  refine .cv (VOk.arith (op := .lss) (k := .i64) (a := x17_28) (b := (t7.1.length : Int)) rfl rfl rfl rfl) rfl rfl ?_
                  exact .done (.rf rfl rfl)
                refine Ok.test (b := (decide (x17_28 < (t7.1.length : Int)))) rfl (fun hb44 => ?_) (fun hb44 => ?_)
                · replace H := ifT H hb44
                  refine Ok.skip ?_
                  refine Ok.seq ?_
                  refine Ok.block ?_
                  refine Ok.seq ?_
                  refine Ok.seq ?_
                  obtain ⟨c33, H⟩ := assertE H
                  obtain ⟨c35, H⟩ := assertE H
                  refine Ok.region (σ' := ⟨[(5, (S t7.1)), (15, (.v (.int .i64 x15_26))), (16, (.v (.int .i64 x16_27))), (17, (.v (.int .i64 x17_28))), (94, (.v (.bool (((bt t7.1 x17_28) == 13) || ((bt t7.1 x17_28) == 10)))))], []⟩) ?_ ?_
                  · refine .cv (VOk.mv (d := (S t7.1)) rfl rfl) rfl rfl ?_
                    refine .cv (VOk.mv (d := (.v (.int .i64 x17_28))) rfl rfl) rfl rfl ?_
                    refine .cv (VOk.indexStr (s := t7.1) (i := x17_28) rfl Tryd.underlying9 rfl rfl c33) rfl rfl ?_
                    refine .cv (VOk.arith (op := .eql) (k := .u8) (a := (bt t7.1 x17_28)) (b := 13) rfl rfl rfl rfl) rfl rfl ?_
                    refine .cv (VOk.mv (d := (.v (.bool ((bt t7.1 x17_28) == 13)))) rfl rfl) rfl rfl ?_
                    refine OpsOk.consI rfl rfl rfl (.one rfl) rfl (fun hw34 => (VOk.g (VOk.mv (d := (S t7.1)) rfl rfl))) ?_
                    refine OpsOk.consI rfl rfl rfl (.one rfl) rfl (fun hw34 => (VOk.g (VOk.mv (d := (.v (.int .i64 x17_28))) rfl rfl))) ?_
                    refine OpsOk.consI rfl rfl rfl (.one rfl) rfl (fun hw34 => (GOk.fr (fr' := [(90, (S t7.1)), (91, (.v (.int .i64 x17_28)))]) ⟨DLe.of_eq (cT hw34).symm, DLe.of_eq (cT hw34).symm, trivial⟩ (VOk.g (VOk.indexStr (s := t7.1) (i := x17_28) rfl Tryd.underlying9 rfl rfl (c35 hw34))))) ?_
                    refine OpsOk.consI rfl rfl rfl (.one rfl) rfl (fun hw34 => (GOk.fr (fr' := [(92, (.v (.int .u8 (bt t7.1 x17_28))))]) ⟨DLe.of_eq (cT hw34).symm, trivial⟩ (VOk.g (VOk.arith (op := .eql) (k := .u8) (a := (bt t7.1 x17_28)) (b := 10) rfl rfl rfl rfl)))) ?_
                    refine .cv (VOk.to (VOk.pickI (b := ((bt t7.1 x17_28) == 13)) (p := true) (q := ((bt t7.1 x17_28) == 10)) rfl rfl (fun hp36 => rfl) (fun hp36 => (cT (f_beq hp36)))) (pickOr ((bt t7.1 x17_28) == 13) ((bt t7.1 x17_28) == 10))) rfl rfl ?_
                    exact .done (.rf rfl rfl)
                  refine Ok.test (b := (((bt t7.1 x17_28) == 13) || ((bt t7.1 x17_28) == 10))) rfl (fun hb43 => ?_) (fun hb43 => ?_)
                  · replace H := ifT H hb43
                    refine Ok.seq ?_
                    refine Ok.region (σ' := ⟨[(5, (S t7.1)), (15, (.v (.int .i64 0))), (16, (.v (.int .i64 0))), (17, (.v (.int .i64 x17_28)))], []⟩) ?_ ?_
                    · refine .cv (VOk.asg (d := (.v (.int .i64 0))) rfl rfl) rfl rfl ?_
                      refine .cv (VOk.asg (d := (.v (.int .i64 0))) rfl rfl) rfl rfl ?_
                      exact .done (.rf rfl rfl)
                    refine Ok.exit ?_
                    refine Ok.region (σ' := ⟨[(5, (S t7.1)), (15, (.v (.int .i64 0))), (16, (.v (.int .i64 0))), (17, (.v (.int .i64 (IntKind.i64.wrap (x17_28 + 1)))))], []⟩) ?_ ?_
                    · refine .cv (VOk.mv (d := (.v (.int .i64 x17_28))) rfl rfl) rfl rfl ?_
                      refine .cv (VOk.arith (op := .add) (k := .i64) (a := x17_28) (b := 1) rfl rfl rfl rfl) rfl rfl ?_
                      refine .cv (VOk.asg (d := (.v (.int .i64 (IntKind.i64.wrap (x17_28 + 1))))) rfl rfl) rfl rfl ?_
                      exact .done (.rf rfl rfl)
                    exact ⟨m32, Nat.lt_succ_self m32, 0, 0, (IntKind.i64.wrap (x17_28 + 1)), rfl, H⟩
                  · replace H := ifF H hb43
                    refine Ok.skip ?_
                    refine Ok.seq ?_
                    refine Ok.region (σ' := ⟨[(5, (S t7.1)), (15, (.v (.int .i64 (IntKind.i64.wrap (x15_26 + 1))))), (16, (.v (.int .i64 x16_27))), (17, (.v (.int .i64 x17_28)))], []⟩) ?_ ?_
                    · refine .cv (VOk.mv (d := (.v (.int .i64 x15_26))) rfl rfl) rfl rfl ?_
                      refine .cv (VOk.arith (op := .add) (k := .i64) (a := x15_26) (b := 1) rfl rfl rfl rfl) rfl rfl ?_
                      refine .cv (VOk.asg (d := (.v (.int .i64 (IntKind.i64.wrap (x15_26 + 1))))) rfl rfl) rfl rfl ?_
                      exact .done (.rf rfl rfl)
                    refine Ok.meet (fun σ => ∃ (x16_37 : Int), σ = ⟨[(5, (S t7.1)), (15, (.v (.int .i64 (IntKind.i64.wrap (x15_26 + 1))))), (16, (.v (.int .i64 x16_37))), (17, (.v (.int .i64 x17_28)))], []⟩ ∧ watchbilllaw07_FieldBack.j2 (watchbilllaw07_FieldBack.l1 k t7 m32) t7 x15_26 x17_28 x16_37 = some r) ?_ ?_
                    · refine Ok.seq ?_
                      obtain ⟨c41, H⟩ := assertE H
                      refine Ok.region (σ' := ⟨[(5, (S t7.1)), (15, (.v (.int .i64 (IntKind.i64.wrap (x15_26 + 1))))), (16, (.v (.int .i64 x16_27))), (17, (.v (.int .i64 x17_28))), (100, (.v (.bool ((bt t7.1 x17_28) == 32))))], []⟩) ?_ ?_
                      · refine .cv (VOk.mv (d := (S t7.1)) rfl rfl) rfl rfl ?_
                        refine .cv (VOk.mv (d := (.v (.int .i64 x17_28))) rfl rfl) rfl rfl ?_
                        refine .cv (VOk.indexStr (s := t7.1) (i := x17_28) rfl Tryd.underlying9 rfl rfl c41) rfl rfl ?_
                        refine .cv (VOk.arith (op := .eql) (k := .u8) (a := (bt t7.1 x17_28)) (b := 32) rfl rfl rfl rfl) rfl rfl ?_
                        exact .done (.rf rfl rfl)
                      refine Ok.test (b := ((bt t7.1 x17_28) == 32)) rfl (fun hb42 => ?_) (fun hb42 => ?_)
                      · replace H := ifT H hb42
                        refine Ok.region (σ' := ⟨[(5, (S t7.1)), (15, (.v (.int .i64 (IntKind.i64.wrap (x15_26 + 1))))), (16, (.v (.int .i64 (IntKind.i64.wrap (x16_27 + 1))))), (17, (.v (.int .i64 x17_28)))], []⟩) ?_ ?_
                        · refine .cv (VOk.mv (d := (.v (.int .i64 x16_27))) rfl rfl) rfl rfl ?_
                          refine .cv (VOk.arith (op := .add) (k := .i64) (a := x16_27) (b := 1) rfl rfl rfl rfl) rfl rfl ?_
                          refine .cv (VOk.asg (d := (.v (.int .i64 (IntKind.i64.wrap (x16_27 + 1))))) rfl rfl) rfl rfl ?_
                          exact .done (.rf rfl rfl)
                        exact ⟨(IntKind.i64.wrap (x16_27 + 1)), rfl, H⟩
                      · replace H := ifF H hb42
                        refine Ok.le (σ' := ⟨[(5, (S t7.1)), (15, (.v (.int .i64 (IntKind.i64.wrap (x15_26 + 1))))), (16, (.v (.int .i64 x16_27))), (17, (.v (.int .i64 x17_28)))], []⟩) (.rf rfl rfl) ?_
                        refine Ok.skip ?_
                        exact ⟨x16_27, rfl, H⟩
                    · rintro σ ⟨x16_37, rfl, H⟩
                      unfold watchbilllaw07_FieldBack.j2 at H
                      refine Ok.seq ?_
                      refine Ok.region (σ' := ⟨[(5, (S t7.1)), (15, (.v (.int .i64 (IntKind.i64.wrap (x15_26 + 1))))), (16, (.v (.int .i64 x16_37))), (17, (.v (.int .i64 x17_28))), (108, (.v (.bool ((decide ((IntKind.i64.wrap (x15_26 + 1)) > 76)) && (decide (x16_37 > 1))))))], []⟩) ?_ ?_
                      · refine .cv (VOk.mv (d := (.v (.int .i64 (IntKind.i64.wrap (x15_26 + 1))))) rfl rfl) rfl rfl ?_
                        refine .cv (VOk.arith (op := .gtr) (k := .i64) (a := (IntKind.i64.wrap (x15_26 + 1))) (b := 76) rfl rfl rfl rfl) rfl rfl ?_
                        refine .cv (VOk.mv (d := (.v (.bool (decide ((IntKind.i64.wrap (x15_26 + 1)) > 76))))) rfl rfl) rfl rfl ?_
                        refine OpsOk.consI rfl rfl rfl (.one rfl) rfl (fun hw38 => (VOk.g (VOk.mv (d := (.v (.int .i64 x16_37))) rfl rfl))) ?_
                        refine OpsOk.consI rfl rfl rfl (.one rfl) rfl (fun hw38 => (GOk.fr (fr' := [(106, (.v (.int .i64 x16_37)))]) ⟨DLe.of_eq (cT hw38).symm, trivial⟩ (VOk.g (VOk.arith (op := .gtr) (k := .i64) (a := x16_37) (b := 1) rfl rfl rfl rfl)))) ?_
                        refine .cv (VOk.to (VOk.pickI (b := (decide ((IntKind.i64.wrap (x15_26 + 1)) > 76))) (p := (decide (x16_37 > 1))) (q := false) rfl rfl (fun hp39 => (cT (t_beq hp39))) (fun hp39 => rfl)) (pickAnd (decide ((IntKind.i64.wrap (x15_26 + 1)) > 76)) (decide (x16_37 > 1)))) rfl rfl ?_
                        exact .done (.rf rfl rfl)
                      refine Ok.test (b := ((decide ((IntKind.i64.wrap (x15_26 + 1)) > 76)) && (decide (x16_37 > 1)))) rfl (fun hb40 => ?_) (fun hb40 => ?_)
                      · replace H := ifT H hb40
                        refine Ok.seq ?_
                        refine Ok.region (σ' := ⟨[(4, (.v (.bool false)))], []⟩) ?_ ?_
                        · refine .cv (VOk.asg (d := (.v (.bool false))) rfl rfl) rfl rfl ?_
                          exact .done (.rf rfl rfl)
                        refine Ok.ret ?_
                        obtain rfl := Option.some.inj H
                        exact ⟨.inl rfl, ⟨_, (.cons (.tmp rfl) .nil), rfl⟩, trivial⟩
                      · replace H := ifF H hb40
                        refine Ok.skip ?_
                        refine Ok.region (σ' := ⟨[(5, (S t7.1)), (15, (.v (.int .i64 (IntKind.i64.wrap (x15_26 + 1))))), (16, (.v (.int .i64 x16_37))), (17, (.v (.int .i64 (IntKind.i64.wrap (x17_28 + 1)))))], []⟩) ?_ ?_
                        · refine .cv (VOk.mv (d := (.v (.int .i64 x17_28))) rfl rfl) rfl rfl ?_
                          refine .cv (VOk.arith (op := .add) (k := .i64) (a := x17_28) (b := 1) rfl rfl rfl rfl) rfl rfl ?_
                          refine .cv (VOk.asg (d := (.v (.int .i64 (IntKind.i64.wrap (x17_28 + 1))))) rfl rfl) rfl rfl ?_
                          exact .done (.rf rfl rfl)
                        exact ⟨m32, Nat.lt_succ_self m32, (IntKind.i64.wrap (x15_26 + 1)), x16_37, (IntKind.i64.wrap (x17_28 + 1)), rfl, H⟩
                · replace H := ifF H hb44
                  refine Ok.exit ?_
                  refine Ok.seq ?_
                  refine Ok.region (σ' := ⟨[(4, (.v (.bool true)))], []⟩) ?_ ?_
                  · refine .cv (VOk.asg (d := (.v (.bool true))) rfl rfl) rfl rfl ?_
                    exact .done (.rf rfl rfl)
                  refine Ok.ret ?_
                  obtain rfl := Option.some.inj H
                  exact ⟨.inl rfl, ⟨_, (.cons (.tmp rfl) .nil), rfl⟩, trivial⟩

/-! watchbill/watchbilllaw07.FieldFolds: function 4 -/
def watchbilllaw07_FieldFolds.j1 (c0 : Str → Str → Int → Int → Str → Option Bool) (a1 : List Bool) (a2 : Str) (y3_0_15 : Str) (y3_1_16 : Str) (x11_14 : Int) (x9_23 : Str) (x10_24 : Int) : Option Bool := (if (0 : Int) ≤ x11_14 ∧ x11_14 ≤ (IntKind.i64.wrap (x11_14 + 1)) ∧ (IntKind.i64.wrap (x11_14 + 1)) ≤ (y3_1_16.length : Int) then (if x9_23.length + (sl y3_1_16 x11_14 (IntKind.i64.wrap (x11_14 + 1))).length ≤ 9223372036854775807 then c0 y3_0_15 y3_1_16 x10_24 (IntKind.i64.wrap (x11_14 + 1)) (x9_23 ++ (sl y3_1_16 x11_14 (IntKind.i64.wrap (x11_14 + 1)))) else none) else none)
def watchbilllaw07_FieldFolds.l0 (k : Nat) (a1 : List Bool) (a2 : Str) : Nat → Str → Str → Int → Int → Str → Option Bool
  | 0, _, _, _, _, _ => none
  | m22 + 1, y3_0_15, y3_1_16, x10_13, x11_14, x9_12 => (if (decide (x11_14 < (y3_1_16.length : Int))) = true then (if (0 : Int) ≤ x11_14 ∧ x11_14 < (y3_1_16.length : Int) then (if ((bt y3_1_16 x11_14) == 32) = true then (if (((decide (x10_13 < (a1.length : Int))) == true) = true → (0 : Int) ≤ x10_13 ∧ x10_13 < (a1.length : Int)) then (if ((decide (x10_13 < (a1.length : Int))) && (rd a1 x10_13)) = true then (if x9_12.length + ([13, 10] : Str).length ≤ 9223372036854775807 then watchbilllaw07_FieldFolds.j1 (watchbilllaw07_FieldFolds.l0 k a1 a2 m22) a1 a2 y3_0_15 y3_1_16 x11_14 (x9_12 ++ ([13, 10] : Str)) (IntKind.i64.wrap (x10_13 + 1)) else none) else watchbilllaw07_FieldFolds.j1 (watchbilllaw07_FieldFolds.l0 k a1 a2 m22) a1 a2 y3_0_15 y3_1_16 x11_14 x9_12 (IntKind.i64.wrap (x10_13 + 1))) else none) else watchbilllaw07_FieldFolds.j1 (watchbilllaw07_FieldFolds.l0 k a1 a2 m22) a1 a2 y3_0_15 y3_1_16 x11_14 x9_12 x10_13) else none) else (if x9_12.length + ([13, 10, 13, 10] : Str).length ≤ 9223372036854775807 then (if (x9_12 ++ ([13, 10, 13, 10] : Str)).length + a2.length ≤ 9223372036854775807 then ((field_Parse k ((x9_12 ++ ([13, 10, 13, 10] : Str)) ++ a2)).bind fun (t36 : (List T_api_Field) × Str × Int) => (if (((((t36.2.2 == 0) && (t36.2.1 == a2)) && ((t36.1.length : Int) == 1)) == true) = true → (0 : Int) ≤ 0 ∧ 0 < (t36.1.length : Int)) then some ((((t36.2.2 == 0) && (t36.2.1 == a2)) && ((t36.1.length : Int) == 1)) && ((rd t36.1 0).Name == (T_api_Field.mk y3_0_15 y3_1_16).Name && ((rd t36.1 0).Value == (T_api_Field.mk y3_0_15 y3_1_16).Value && true))) else none)) else none) else none))
def watchbilllaw07_FieldFolds (k : Nat) (a0 : T_api_Field) (a1 : List Bool) (a2 : Str) : Option Bool := ((watchbilllaw07_awake k).bind fun (t1 : Bool) => (if (!t1) = true then some false else ((watchbilllaw07_Few k ([a0] : List T_api_Field)).bind fun (t3 : Bool) => (if ((!t3) || (decide ((a2.length : Int) > 2000))) = true then some true else ((field_Print k ([a0] : List T_api_Field)).bind fun (t7 : Str × Int) => (if ((t7.2 != 0) || (decide ((a0.Value.length : Int) > 900))) = true then some true else (if a0.Name.length + ([58, 32] : Str).length ≤ 9223372036854775807 then watchbilllaw07_FieldFolds.l0 k a1 a2 k a0.Name a0.Value 0 0 (a0.Name ++ ([58, 32] : Str)) else none)))))))
theorem watchbilllaw07_FieldFolds.ok {k : Nat} {a0 : T_api_Field} {a1 : List Bool} {a2 : Str} {r : Bool} (H : watchbilllaw07_FieldFolds k a0 a1 a2 = some r) : Vx.Fn Tryd.prog 4 [(.agg (e_api_Field a0)), (L 1 eB a1), (S a2)] [] (.v (.bool r)) [] := by
  unfold watchbilllaw07_FieldFolds at H
  refine Vx.Fn.of_okR Tryd.func4 rfl (Nat.le_of_ble_eq_true rfl) ?_
  refine Ok.seq ?_
  refine Ok.region (σ' := ⟨[(1, (L 1 eB a1)), (2, (S a2)), (3, (.bref 3 0))], [(3, (.box .ex [(S a0.Name), (S a0.Value)]))]⟩) ?_ ?_
  · refine OpsOk.cons rfl (OpOk.box 3 (cells := [(S a0.Name), (S a0.Value)]) rfl rfl rfl rfl) ?_
    refine .cv (VOk.asg (d := (.v (.bool false))) rfl rfl) rfl rfl ?_
    exact .done (.rf rfl rfl)
  refine Ok.seq ?_
  refine Ok.seq ?_
  obtain ⟨t1, h2, H⟩ := bindE H
  refine Ok.region (σ' := ⟨[(1, (L 1 eB a1)), (2, (S a2)), (3, (.bref 3 0)), (16, (.v (.bool (!t1))))], [(3, (.box .ex [(S a0.Name), (S a0.Value)]))]⟩) ?_ ?_
  · refine .cg (GOk.call rfl rfl cl8 rfl (watchbilllaw07_awake.ok h2) rfl) rfl rfl ?_
    refine .cv (VOk.not (b := t1) rfl rfl) rfl rfl ?_
    exact .done (.rf rfl rfl)
  refine Ok.test (b := (!t1)) rfl (fun hb48 => ?_) (fun hb48 => ?_)
  · replace H := ifT H hb48
    refine Ok.seq ?_
    refine Ok.region (σ' := ⟨[(6, (.v (.bool false)))], []⟩) ?_ ?_
    · refine .cv (VOk.asg (d := (.v (.bool false))) rfl rfl) rfl rfl ?_
      exact .done (.rf rfl rfl)
    refine Ok.ret ?_
    obtain rfl := Option.some.inj H
    exact ⟨.inl rfl, ⟨_, (.cons (.tmp rfl) .nil), rfl⟩, trivial⟩
  · replace H := ifF H hb48
    refine Ok.skip ?_
    refine Ok.seq ?_
    refine Ok.seq ?_
    obtain ⟨t3, h4, H⟩ := bindE H
    refine Ok.region (σ' := ⟨[(1, (L 1 eB a1)), (2, (S a2)), (3, (.bref 3 0)), (25, (.v (.bool ((!t3) || (decide ((a2.length : Int) > 2000))))))], [(3, (.box .ex [(S a0.Name), (S a0.Value)]))]⟩) ?_ ?_
    · refine .cv (VOk.to (d' := (.agg (e_api_Field a0))) (.loadBAgg rfl Tryd.underlying34 rfl sz34 rfl rfl rfl) rfl) rfl rfl ?_
      refine .cg (GOk.to (d' := (L 2 e_api_Field ([a0] : List T_api_Field))) (GOk.lit rfl Tryd.underlying22 sz34 zs34 rfl rfl rfl rfl) rfl) rfl rfl ?_
      refine .cg (GOk.call rfl rfl cl9 rfl (watchbilllaw07_Few.ok h4) rfl) rfl rfl ?_
      refine .cv (VOk.not (b := t3) rfl rfl) rfl rfl ?_
      refine .cv (VOk.mv (d := (.v (.bool (!t3)))) rfl rfl) rfl rfl ?_
      refine OpsOk.consI rfl rfl rfl (.one rfl) rfl (fun hw5 => (VOk.g (VOk.mv (d := (S a2)) rfl rfl))) ?_
      refine OpsOk.consI rfl rfl rfl (.one rfl) rfl (fun hw5 => (GOk.fr (fr' := [(22, (S a2))]) ⟨DLe.of_eq (cT hw5).symm, trivial⟩ (VOk.g (VOk.lenStr (s := a2) rfl Tryd.underlying9 rfl)))) ?_
      refine OpsOk.consI rfl rfl rfl (.one rfl) rfl (fun hw5 => (GOk.fr (fr' := [(23, (.v (.int .i64 (a2.length : Int))))]) ⟨DLe.of_eq (cT hw5).symm, trivial⟩ (VOk.g (VOk.arith (op := .gtr) (k := .i64) (a := (a2.length : Int)) (b := 2000) rfl rfl rfl rfl)))) ?_
      refine .cv (VOk.to (VOk.pickI (b := (!t3)) (p := true) (q := (decide ((a2.length : Int) > 2000))) rfl rfl (fun hp6 => rfl) (fun hp6 => (cT (f_beq hp6)))) (pickOr (!t3) (decide ((a2.length : Int) > 2000)))) rfl rfl ?_
      exact .done (.rf rfl rfl)
    refine Ok.test (b := ((!t3) || (decide ((a2.length : Int) > 2000)))) rfl (fun hb47 => ?_) (fun hb47 => ?_)
    · replace H := ifT H hb47
      refine Ok.seq ?_
      refine Ok.region (σ' := ⟨[(6, (.v (.bool true)))], []⟩) ?_ ?_
      · refine .cv (VOk.asg (d := (.v (.bool true))) rfl rfl) rfl rfl ?_
        exact .done (.rf rfl rfl)
      refine Ok.ret ?_
      obtain rfl := Option.some.inj H
      exact ⟨.inl rfl, ⟨_, (.cons (.tmp rfl) .nil), rfl⟩, trivial⟩
    · replace H := ifF H hb47
      refine Ok.skip ?_
      refine Ok.seq ?_
      refine Ok.seq ?_
      obtain ⟨t7, h8, H⟩ := bindE H
      refine Ok.region (σ' := ⟨[(1, (L 1 eB a1)), (2, (S a2)), (3, (.bref 3 0)), (8, (.v (.int .i64 t7.2)))], [(3, (.box .ex [(S a0.Name), (S a0.Value)]))]⟩) ?_ ?_
      · refine .cv (VOk.to (d' := (.agg (e_api_Field a0))) (.loadBAgg rfl Tryd.underlying34 rfl sz34 rfl rfl rfl) rfl) rfl rfl ?_
        refine .cg (GOk.to (d' := (L 2 e_api_Field ([a0] : List T_api_Field))) (GOk.lit rfl Tryd.underlying22 sz34 zs34 rfl rfl rfl rfl) rfl) rfl rfl ?_
        refine .cg (GOk.call rfl rfl cl10 rfl (field_Print.ok h8) rfl) rfl rfl ?_
        refine .cv (VOk.mv (d := (.tup [(S t7.1), (.v (.int .i64 t7.2))])) rfl rfl) rfl rfl ?_
        refine .cv (VOk.extract (d := (S t7.1)) rfl rfl rfl) rfl rfl ?_
        refine .cv (VOk.extract (d := (.v (.int .i64 t7.2))) rfl rfl rfl) rfl rfl ?_
        refine .cv (VOk.asg (d := (S t7.1)) rfl rfl) rfl rfl ?_
        refine .cv (VOk.asg (d := (.v (.int .i64 t7.2))) rfl rfl) rfl rfl ?_
        exact .done (.rf rfl rfl)
      refine Ok.seq ?_
      refine Ok.region (σ' := ⟨[(1, (L 1 eB a1)), (2, (S a2)), (3, (.bref 3 0)), (39, (.v (.bool ((t7.2 != 0) || (decide ((a0.Value.length : Int) > 900))))))], [(3, (.box .ex [(S a0.Name), (S a0.Value)]))]⟩) ?_ ?_
      · refine .cv (VOk.mv (d := (.v (.int .i64 t7.2))) rfl rfl) rfl rfl ?_
        refine .cv (VOk.arith (op := .neq) (k := .i64) (a := t7.2) (b := 0) rfl rfl rfl rfl) rfl rfl ?_
        refine .cv (VOk.mv (d := (.v (.bool (t7.2 != 0)))) rfl rfl) rfl rfl ?_
        refine OpsOk.consI rfl rfl rfl (.one rfl) rfl (fun hw9 => (VOk.g (VOk.to (VOk.fieldB rfl Tryd.underlying34 rfl sz9 rfl rfl) rfl))) ?_
        refine OpsOk.consI rfl rfl rfl (.one rfl) rfl (fun hw9 => (GOk.fr (fr' := [(35, (.bref 3 1))]) ⟨DLe.of_eq (cT hw9).symm, trivial⟩ (VOk.g (VOk.loadB (d := (S a0.Value)) rfl Tryd.underlying9 rfl rfl rfl rfl)))) ?_
        refine OpsOk.consI rfl rfl rfl (.one rfl) rfl (fun hw9 => (GOk.fr (fr' := [(36, (S a0.Value))]) ⟨DLe.of_eq (cT hw9).symm, trivial⟩ (VOk.g (VOk.lenStr (s := a0.Value) rfl Tryd.underlying9 rfl)))) ?_
        refine OpsOk.consI rfl rfl rfl (.one rfl) rfl (fun hw9 => (GOk.fr (fr' := [(37, (.v (.int .i64 (a0.Value.length : Int))))]) ⟨DLe.of_eq (cT hw9).symm, trivial⟩ (VOk.g (VOk.arith (op := .gtr) (k := .i64) (a := (a0.Value.length : Int)) (b := 900) rfl rfl rfl rfl)))) ?_
        refine .cv (VOk.to (VOk.pickI (b := (t7.2 != 0)) (p := true) (q := (decide ((a0.Value.length : Int) > 900))) rfl rfl (fun hp10 => rfl) (fun hp10 => (cT (f_beq hp10)))) (pickOr (t7.2 != 0) (decide ((a0.Value.length : Int) > 900)))) rfl rfl ?_
        exact .done (.rf rfl rfl)
      refine Ok.test (b := ((t7.2 != 0) || (decide ((a0.Value.length : Int) > 900)))) rfl (fun hb46 => ?_) (fun hb46 => ?_)
      · replace H := ifT H hb46
        refine Ok.seq ?_
        refine Ok.region (σ' := ⟨[(6, (.v (.bool true)))], []⟩) ?_ ?_
        · refine .cv (VOk.asg (d := (.v (.bool true))) rfl rfl) rfl rfl ?_
          exact .done (.rf rfl rfl)
        refine Ok.ret ?_
        obtain rfl := Option.some.inj H
        exact ⟨.inl rfl, ⟨_, (.cons (.tmp rfl) .nil), rfl⟩, trivial⟩
      · replace H := ifF H hb46
        refine Ok.skip ?_
        refine Ok.seq ?_
        obtain ⟨c11, H⟩ := assertE H
        refine Ok.region (σ' := ⟨[(1, (L 1 eB a1)), (2, (S a2)), (3, (.bref 3 0)), (9, (S (a0.Name ++ ([58, 32] : Str))))], [(3, (.box .ex [(S a0.Name), (S a0.Value)]))]⟩) ?_ ?_
        · refine .cv (VOk.to (VOk.fieldB rfl Tryd.underlying34 rfl sz9 rfl rfl) rfl) rfl rfl ?_
          refine .cv (VOk.loadB (d := (S a0.Name)) rfl Tryd.underlying9 rfl rfl rfl rfl) rfl rfl ?_
          refine .cv (VOk.cat (a := a0.Name) (b := ([58, 32] : Str)) rfl rfl rfl c11) rfl rfl ?_
          refine .cv (VOk.asg (d := (S (a0.Name ++ ([58, 32] : Str)))) rfl rfl) rfl rfl ?_
          exact .done (.rf rfl rfl)
        refine Ok.seq ?_
        refine Ok.region (σ' := ⟨[(1, (L 1 eB a1)), (2, (S a2)), (3, (.bref 3 0)), (9, (S (a0.Name ++ ([58, 32] : Str)))), (10, (.v (.int .i64 0)))], [(3, (.box .ex [(S a0.Name), (S a0.Value)]))]⟩) ?_ ?_
        · refine .cv (VOk.asg (d := (.v (.int .i64 0))) rfl rfl) rfl rfl ?_
          exact .done (.rf rfl rfl)
        refine Ok.seq ?_
        refine Ok.seq ?_
        refine Ok.region (σ' := ⟨[(1, (L 1 eB a1)), (2, (S a2)), (3, (.bref 3 0)), (9, (S (a0.Name ++ ([58, 32] : Str)))), (10, (.v (.int .i64 0))), (11, (.v (.int .i64 0)))], [(3, (.box .ex [(S a0.Name), (S a0.Value)]))]⟩) ?_ ?_
        · refine .cv (VOk.asg (d := (.v (.int .i64 0))) rfl rfl) rfl rfl ?_
          exact .done (.rf rfl rfl)
        refine Ok.block ?_
        refine Ok.le (σ' := ⟨[(1, (L 1 eB a1)), (2, (S a2)), (3, (.bref 3 0)), (9, (S (a0.Name ++ ([58, 32] : Str)))), (10, (.v (.int .i64 0))), (11, (.v (.int .i64 0)))], [(3, (.box .ex [(S a0.Name), (S a0.Value)]))]⟩) (.rf rfl rfl) ?_
        refine Ok.loop (fun m22 σ => ∃ (y3_0_15 : Str) (y3_1_16 : Str) (x10_13 : Int) (x11_14 : Int) (x9_12 : Str), σ = ⟨[(1, (L 1 eB a1)), (2, (S a2)), (3, (.bref 3 0)), (9, (S x9_12)), (10, (.v (.int .i64 x10_13))), (11, (.v (.int .i64 x11_14)))], [(3, (.box .ex [(S y3_0_15), (S y3_1_16)]))]⟩ ∧ watchbilllaw07_FieldFolds.l0 k a1 a2 m22 y3_0_15 y3_1_16 x10_13 x11_14 x9_12 = some r) k ⟨a0.Name, a0.Value, 0, 0, (a0.Name ++ ([58, 32] : Str)), rfl, H⟩ ?_
        rintro m22 σ ⟨y3_0_15, y3_1_16, x10_13, x11_14, x9_12, rfl, H⟩
        cases m22 with
        | zero => exact absurd H (by simp [watchbilllaw07_FieldFolds.l0])
        | succ m22 =>
          unfold watchbilllaw07_FieldFolds.l0 at H
          refine Ok.seq ?_
          refine Ok.seq ?_
          refine Ok.region (σ' := ⟨[(1, (L 1 eB a1)), (2, (S a2)), (3, (.bref 3 0)), (9, (S x9_12)), (10, (.v (.int .i64 x10_13))), (11, (.v (.int .i64 x11_14))), (47, (.v (.bool (decide (x11_14 < (y3_1_16.length : Int))))))], [(3, (.box .ex [(S y3_0_15), (S y3_1_16)]))]⟩) ?_ ?_
          · refine .cv (VOk.mv (d := (.v (.int .i64 x11_14))) rfl rfl) rfl rfl ?_
            refine .cv (VOk.to (VOk.fieldB rfl Tryd.underlying34 rfl sz9 rfl rfl) rfl) rfl rfl ?_
            refine .cv (VOk.loadB (d := (S y3_1_16)) rfl Tryd.underlying9 rfl rfl rfl rfl) rfl rfl ?_
            refine .cv (VOk.lenStr (s := y3_1_16) rfl Tryd.underlying9 rfl) rfl rfl ?_
            refine .cv (VOk.arith (op := .lss) (k := .i64) (a := x11_14) (b := (y3_1_16.length : Int)) rfl rfl rfl rfl) rfl rfl ?_
            exact .done (.rf rfl rfl)
          refine Ok.test (b := (decide (x11_14 < (y3_1_16.length : Int)))) rfl (fun hb45 => ?_) (fun hb45 => ?_)
          · replace H := ifT H hb45
            refine Ok.skip ?_
            refine Ok.seq ?_
            refine Ok.block ?_
            refine Ok.meet (fun σ => ∃ (x9_23 : Str) (x10_24 : Int), σ = ⟨[(1, (L 1 eB a1)), (2, (S a2)), (3, (.bref 3 0)), (9, (S x9_23)), (10, (.v (.int .i64 x10_24))), (11, (.v (.int .i64 x11_14)))], [(3, (.box .ex [(S y3_0_15), (S y3_1_16)]))]⟩ ∧ watchbilllaw07_FieldFolds.j1 (watchbilllaw07_FieldFolds.l0 k a1 a2 m22) a1 a2 y3_0_15 y3_1_16 x11_14 x9_23 x10_24 = some r) ?_ ?_
            · refine Ok.seq ?_
              obtain ⟨c27, H⟩ := assertE H
              refine Ok.region (σ' := ⟨[(1, (L 1 eB a1)), (2, (S a2)), (3, (.bref 3 0)), (9, (S x9_12)), (10, (.v (.int .i64 x10_13))), (11, (.v (.int .i64 x11_14))), (54, (.v (.bool ((bt y3_1_16 x11_14) == 32))))], [(3, (.box .ex [(S y3_0_15), (S y3_1_16)]))]⟩) ?_ ?_
              · refine .cv (VOk.to (VOk.fieldB rfl Tryd.underlying34 rfl sz9 rfl rfl) rfl) rfl rfl ?_
                refine .cv (VOk.loadB (d := (S y3_1_16)) rfl Tryd.underlying9 rfl rfl rfl rfl) rfl rfl ?_
                refine .cv (VOk.mv (d := (.v (.int .i64 x11_14))) rfl rfl) rfl rfl ?_
                refine .cv (VOk.indexStr (s := y3_1_16) (i := x11_14) rfl Tryd.underlying9 rfl rfl c27) rfl rfl ?_
                refine .cv (VOk.arith (op := .eql) (k := .u8) (a := (bt y3_1_16 x11_14)) (b := 32) rfl rfl rfl rfl) rfl rfl ?_
                exact .done (.rf rfl rfl)
              refine Ok.test (b := ((bt y3_1_16 x11_14) == 32)) rfl (fun hb33 => ?_) (fun hb33 => ?_)
              · replace H := ifT H hb33
                refine Ok.seq ?_
                refine Ok.seq ?_
                obtain ⟨c29, H⟩ := assertE H
                refine Ok.region (σ' := ⟨[(1, (L 1 eB a1)), (2, (S a2)), (3, (.bref 3 0)), (9, (S x9_12)), (10, (.v (.int .i64 x10_13))), (11, (.v (.int .i64 x11_14))), (64, (.v (.bool ((decide (x10_13 < (a1.length : Int))) && (rd a1 x10_13)))))], [(3, (.box .ex [(S y3_0_15), (S y3_1_16)]))]⟩) ?_ ?_
                · refine .cv (VOk.mv (d := (.v (.int .i64 x10_13))) rfl rfl) rfl rfl ?_
                  refine .cv (VOk.mv (d := (L 1 eB a1)) rfl rfl) rfl rfl ?_
                  refine .cv (VOk.lenL (e := eB) (xs := a1) rfl Tryd.underlying35 rfl) rfl rfl ?_
                  refine .cv (VOk.arith (op := .lss) (k := .i64) (a := x10_13) (b := (a1.length : Int)) rfl rfl rfl rfl) rfl rfl ?_
                  refine .cv (VOk.mv (d := (.v (.bool (decide (x10_13 < (a1.length : Int)))))) rfl rfl) rfl rfl ?_
                  refine OpsOk.consI rfl rfl rfl (.one rfl) rfl (fun hw28 => (VOk.g (VOk.mv (d := (L 1 eB a1)) rfl rfl))) ?_
                  refine OpsOk.consI rfl rfl rfl (.one rfl) rfl (fun hw28 => (VOk.g (VOk.mv (d := (.v (.int .i64 x10_13))) rfl rfl))) ?_
                  refine OpsOk.consI rfl rfl rfl (.one rfl) rfl (fun hw28 => (GOk.fr (fr' := [(60, (L 1 eB a1)), (61, (.v (.int .i64 x10_13)))]) ⟨DLe.of_eq (cT hw28).symm, DLe.of_eq (cT hw28).symm, trivial⟩ (VOk.g (VOk.indexL (sz := 1) (e := eB) (xs := a1) (i := x10_13) rfl Tryd.underlying35 sz4 rfl rfl (c29 hw28))))) ?_
                  refine OpsOk.consI rfl rfl rfl (.one rfl) rfl (fun hw28 => (GOk.fr (fr' := [(62, (.fp (eB (rd a1 x10_13)) 0))]) ⟨DLe.of_eq (cT hw28).symm, trivial⟩ (VOk.g (VOk.loadFp (d := (.v (.bool (rd a1 x10_13)))) rfl Tryd.underlying4 rfl rfl rfl)))) ?_
                  refine .cv (VOk.to (VOk.pickI (b := (decide (x10_13 < (a1.length : Int)))) (p := (rd a1 x10_13)) (q := false) rfl rfl (fun hp30 => (cT (t_beq hp30))) (fun hp30 => rfl)) (pickAnd (decide (x10_13 < (a1.length : Int))) (rd a1 x10_13))) rfl rfl ?_
                  exact .done (.rf rfl rfl)
                refine Ok.test (b := ((decide (x10_13 < (a1.length : Int))) && (rd a1 x10_13))) rfl (fun hb32 => ?_) (fun hb32 => ?_)
                · replace H := ifT H hb32
                  obtain ⟨c31, H⟩ := assertE H
                  refine Ok.region (σ' := ⟨[(1, (L 1 eB a1)), (2, (S a2)), (3, (.bref 3 0)), (9, (S (x9_12 ++ ([13, 10] : Str)))), (10, (.v (.int .i64 x10_13))), (11, (.v (.int .i64 x11_14)))], [(3, (.box .ex [(S y3_0_15), (S y3_1_16)]))]⟩) ?_ ?_
                  · refine .cv (VOk.mv (d := (S x9_12)) rfl rfl) rfl rfl ?_
                    refine .cv (VOk.cat (a := x9_12) (b := ([13, 10] : Str)) rfl rfl rfl c31) rfl rfl ?_
                    refine .cv (VOk.asg (d := (S (x9_12 ++ ([13, 10] : Str)))) rfl rfl) rfl rfl ?_
                    exact .done (.rf rfl rfl)
                  refine Ok.region (σ' := ⟨[(1, (L 1 eB a1)), (2, (S a2)), (3, (.bref 3 0)), (9, (S (x9_12 ++ ([13, 10] : Str)))), (10, (.v (.int .i64 (IntKind.i64.wrap (x10_13 + 1))))), (11, (.v (.int .i64 x11_14)))], [(3, (.box .ex [(S y3_0_15), (S y3_1_16)]))]⟩) ?_ ?_
                  · refine .cv (VOk.mv (d := (.v (.int .i64 x10_13))) rfl rfl) rfl rfl ?_
                    refine .cv (VOk.arith (op := .add) (k := .i64) (a := x10_13) (b := 1) rfl rfl rfl rfl) rfl rfl ?_
                    refine .cv (VOk.asg (d := (.v (.int .i64 (IntKind.i64.wrap (x10_13 + 1))))) rfl rfl) rfl rfl ?_
                    exact .done (.rf rfl rfl)
                  exact ⟨(x9_12 ++ ([13, 10] : Str)), (IntKind.i64.wrap (x10_13 + 1)), rfl, H⟩
                · replace H := ifF H hb32
                  refine Ok.skip ?_
                  refine Ok.region (σ' := ⟨[(1, (L 1 eB a1)), (2, (S a2)), (3, (.bref 3 0)), (9, (S x9_12)), (10, (.v (.int .i64 (IntKind.i64.wrap (x10_13 + 1))))), (11, (.v (.int .i64 x11_14)))], [(3, (.box .ex [(S y3_0_15), (S y3_1_16)]))]⟩) ?_ ?_
                  · refine .cv (VOk.mv (d := (.v (.int .i64 x10_13))) rfl rfl) rfl rfl ?_
                    refine .cv (VOk.arith (op := .add) (k := .i64) (a := x10_13) (b := 1) rfl rfl rfl rfl) rfl rfl ?_
                    refine .cv (VOk.asg (d := (.v (.int .i64 (IntKind.i64.wrap (x10_13 + 1))))) rfl rfl) rfl rfl ?_
                    exact .done (.rf rfl rfl)
                  exact ⟨x9_12, (IntKind.i64.wrap (x10_13 + 1)), rfl, H⟩
              · replace H := ifF H hb33
                refine Ok.le (σ' := ⟨[(1, (L 1 eB a1)), (2, (S a2)), (3, (.bref 3 0)), (9, (S x9_12)), (10, (.v (.int .i64 x10_13))), (11, (.v (.int .i64 x11_14)))], [(3, (.box .ex [(S y3_0_15), (S y3_1_16)]))]⟩) (.rf rfl rfl) ?_
                refine Ok.skip ?_
                exact ⟨x9_12, x10_13, rfl, H⟩
            · rintro σ ⟨x9_23, x10_24, rfl, H⟩
              unfold watchbilllaw07_FieldFolds.j1 at H
              obtain ⟨c25, H⟩ := assertE H
              obtain ⟨c26, H⟩ := assertE H
              refine Ok.region (σ' := ⟨[(1, (L 1 eB a1)), (2, (S a2)), (3, (.bref 3 0)), (9, (S (x9_23 ++ (sl y3_1_16 x11_14 (IntKind.i64.wrap (x11_14 + 1)))))), (10, (.v (.int .i64 x10_24))), (11, (.v (.int .i64 x11_14)))], [(3, (.box .ex [(S y3_0_15), (S y3_1_16)]))]⟩) ?_ ?_
              · refine .cv (VOk.mv (d := (S x9_23)) rfl rfl) rfl rfl ?_
                refine .cv (VOk.to (VOk.fieldB rfl Tryd.underlying34 rfl sz9 rfl rfl) rfl) rfl rfl ?_
                refine .cv (VOk.loadB (d := (S y3_1_16)) rfl Tryd.underlying9 rfl rfl rfl rfl) rfl rfl ?_
                refine .cv (VOk.mv (d := (.v (.int .i64 x11_14))) rfl rfl) rfl rfl ?_
                refine .cv (VOk.mv (d := (.v (.int .i64 x11_14))) rfl rfl) rfl rfl ?_
                refine .cv (VOk.arith (op := .add) (k := .i64) (a := x11_14) (b := 1) rfl rfl rfl rfl) rfl rfl ?_
                refine .cv (VOk.sliceStr (s := y3_1_16) (l := x11_14) (h := (IntKind.i64.wrap (x11_14 + 1))) rfl Tryd.underlying9 rfl rfl rfl c25) rfl rfl ?_
                refine .cv (VOk.cat (a := x9_23) (b := (sl y3_1_16 x11_14 (IntKind.i64.wrap (x11_14 + 1)))) rfl rfl rfl c26) rfl rfl ?_
                refine .cv (VOk.asg (d := (S (x9_23 ++ (sl y3_1_16 x11_14 (IntKind.i64.wrap (x11_14 + 1)))))) rfl rfl) rfl rfl ?_
                exact .done (.rf rfl rfl)
              refine Ok.region (σ' := ⟨[(1, (L 1 eB a1)), (2, (S a2)), (3, (.bref 3 0)), (9, (S (x9_23 ++ (sl y3_1_16 x11_14 (IntKind.i64.wrap (x11_14 + 1)))))), (10, (.v (.int .i64 x10_24))), (11, (.v (.int .i64 (IntKind.i64.wrap (x11_14 + 1)))))], [(3, (.box .ex [(S y3_0_15), (S y3_1_16)]))]⟩) ?_ ?_
              · refine .cv (VOk.mv (d := (.v (.int .i64 x11_14))) rfl rfl) rfl rfl ?_
                refine .cv (VOk.arith (op := .add) (k := .i64) (a := x11_14) (b := 1) rfl rfl rfl rfl) rfl rfl ?_
                refine .cv (VOk.asg (d := (.v (.int .i64 (IntKind.i64.wrap (x11_14 + 1))))) rfl rfl) rfl rfl ?_
                exact .done (.rf rfl rfl)
              exact ⟨m22, Nat.lt_succ_self m22, y3_0_15, y3_1_16, x10_24, (IntKind.i64.wrap (x11_14 + 1)), (x9_23 ++ (sl y3_1_16 x11_14 (IntKind.i64.wrap (x11_14 + 1)))), rfl, H⟩
          · replace H := ifF H hb45
            refine Ok.exit ?_
            refine Ok.seq ?_
            obtain ⟨c34, H⟩ := assertE H
            obtain ⟨c35, H⟩ := assertE H
            obtain ⟨t36, h37, H⟩ := bindE H
            refine Ok.region (σ' := ⟨[(2, (S a2)), (3, (.bref 3 0)), (12, (L 2 e_api_Field t36.1)), (13, (S t36.2.1)), (14, (.v (.int .i64 t36.2.2)))], [(3, (.box .ex [(S y3_0_15), (S y3_1_16)]))]⟩) ?_ ?_
            · refine .cv (VOk.mv (d := (S x9_12)) rfl rfl) rfl rfl ?_
              refine .cv (VOk.cat (a := x9_12) (b := ([13, 10, 13, 10] : Str)) rfl rfl rfl c34) rfl rfl ?_
              refine .cv (VOk.mv (d := (S a2)) rfl rfl) rfl rfl ?_
              refine .cv (VOk.cat (a := (x9_12 ++ ([13, 10, 13, 10] : Str))) (b := a2) rfl rfl rfl c35) rfl rfl ?_
              refine .cg (GOk.call rfl rfl cl11 rfl (field_Parse.ok h37) rfl) rfl rfl ?_
              refine .cv (VOk.mv (d := (.tup [(L 2 e_api_Field t36.1), (S t36.2.1), (.v (.int .i64 t36.2.2))])) rfl rfl) rfl rfl ?_
              refine .cv (VOk.extract (d := (L 2 e_api_Field t36.1)) rfl rfl rfl) rfl rfl ?_
              refine .cv (VOk.extract (d := (S t36.2.1)) rfl rfl rfl) rfl rfl ?_
              refine .cv (VOk.extract (d := (.v (.int .i64 t36.2.2))) rfl rfl rfl) rfl rfl ?_
              refine .cv (VOk.asg (d := (L 2 e_api_Field t36.1)) rfl rfl) rfl rfl ?_
              refine .cv (VOk.asg (d := (S t36.2.1)) rfl rfl) rfl rfl ?_
              refine .cv (VOk.asg (d := (.v (.int .i64 t36.2.2))) rfl rfl) rfl rfl ?_
              exact .done (.rf rfl rfl)
            refine Ok.seq ?_
            obtain ⟨c43, H⟩ := assertE H
            refine Ok.drawE (σ' := ⟨[(6, (.v (.bool ((((t36.2.2 == 0) && (t36.2.1 == a2)) && ((t36.1.length : Int) == 1)) && ((rd t36.1 0).Name == (T_api_Field.mk y3_0_15 y3_1_16).Name && ((rd t36.1 0).Value == (T_api_Field.mk y3_0_15 y3_1_16).Value && true))))))], []⟩) [⟨true, [(14, (.v (.int .i64 t36.2.2)))], (.v (.int .i64 t36.2.2))⟩, ⟨true, [(86, (.v (.int .i64 t36.2.2)))], (.v (.bool (t36.2.2 == 0)))⟩, ⟨true, [(87, (.v (.bool (t36.2.2 == 0))))], (.v (.bool (t36.2.2 == 0)))⟩, It.I ((t36.2.2 == 0) == true) [(13, (S t36.2.1)), (88, (.v (.bool (t36.2.2 == 0))))] (S t36.2.1), It.I ((t36.2.2 == 0) == true) [(2, (S a2)), (88, (.v (.bool (t36.2.2 == 0))))] (S a2), It.I ((t36.2.2 == 0) == true) [(89, (bif ((t36.2.2 == 0) == true) then (S t36.2.1) else .v undef)), (90, (bif ((t36.2.2 == 0) == true) then (S a2) else .v undef)), (88, (.v (.bool (t36.2.2 == 0))))] (.v (.bool (t36.2.1 == a2))), ⟨true, [(88, (.v (.bool (t36.2.2 == 0)))), (91, (bif ((t36.2.2 == 0) == true) then (.v (.bool (t36.2.1 == a2))) else .v undef))], (.v (.bool ((t36.2.2 == 0) && (t36.2.1 == a2))))⟩, ⟨true, [(92, (.v (.bool ((t36.2.2 == 0) && (t36.2.1 == a2)))))], (.v (.bool ((t36.2.2 == 0) && (t36.2.1 == a2))))⟩, It.I (((t36.2.2 == 0) && (t36.2.1 == a2)) == true) [(12, (L 2 e_api_Field t36.1)), (93, (.v (.bool ((t36.2.2 == 0) && (t36.2.1 == a2)))))] (L 2 e_api_Field t36.1), It.I (((t36.2.2 == 0) && (t36.2.1 == a2)) == true) [(94, (bif (((t36.2.2 == 0) && (t36.2.1 == a2)) == true) then (L 2 e_api_Field t36.1) else .v undef)), (93, (.v (.bool ((t36.2.2 == 0) && (t36.2.1 == a2)))))] (.v (.int .i64 (t36.1.length : Int))), It.I (((t36.2.2 == 0) && (t36.2.1 == a2)) == true) [(95, (bif (((t36.2.2 == 0) && (t36.2.1 == a2)) == true) then (.v (.int .i64 (t36.1.length : Int))) else .v undef)), (93, (.v (.bool ((t36.2.2 == 0) && (t36.2.1 == a2)))))] (.v (.bool ((t36.1.length : Int) == 1))), ⟨true, [(93, (.v (.bool ((t36.2.2 == 0) && (t36.2.1 == a2))))), (96, (bif (((t36.2.2 == 0) && (t36.2.1 == a2)) == true) then (.v (.bool ((t36.1.length : Int) == 1))) else .v undef))], (.v (.bool (((t36.2.2 == 0) && (t36.2.1 == a2)) && ((t36.1.length : Int) == 1))))⟩, ⟨true, [(97, (.v (.bool (((t36.2.2 == 0) && (t36.2.1 == a2)) && ((t36.1.length : Int) == 1)))))], (.v (.bool (((t36.2.2 == 0) && (t36.2.1 == a2)) && ((t36.1.length : Int) == 1))))⟩, It.I ((((t36.2.2 == 0) && (t36.2.1 == a2)) && ((t36.1.length : Int) == 1)) == true) [(12, (L 2 e_api_Field t36.1)), (98, (.v (.bool (((t36.2.2 == 0) && (t36.2.1 == a2)) && ((t36.1.length : Int) == 1)))))] (L 2 e_api_Field t36.1), It.I ((((t36.2.2 == 0) && (t36.2.1 == a2)) && ((t36.1.length : Int) == 1)) == true) [(99, (bif ((((t36.2.2 == 0) && (t36.2.1 == a2)) && ((t36.1.length : Int) == 1)) == true) then (L 2 e_api_Field t36.1) else .v undef)), (98, (.v (.bool (((t36.2.2 == 0) && (t36.2.1 == a2)) && ((t36.1.length : Int) == 1)))))] (.fp (e_api_Field (rd t36.1 0)) 0), It.I ((((t36.2.2 == 0) && (t36.2.1 == a2)) && ((t36.1.length : Int) == 1)) == true) [(100, (bif ((((t36.2.2 == 0) && (t36.2.1 == a2)) && ((t36.1.length : Int) == 1)) == true) then (.fp (e_api_Field (rd t36.1 0)) 0) else .v undef)), (98, (.v (.bool (((t36.2.2 == 0) && (t36.2.1 == a2)) && ((t36.1.length : Int) == 1)))))] (.agg (e_api_Field (rd t36.1 0))), It.I ((((t36.2.2 == 0) && (t36.2.1 == a2)) && ((t36.1.length : Int) == 1)) == true) [(3, (.bref 3 0)), (98, (.v (.bool (((t36.2.2 == 0) && (t36.2.1 == a2)) && ((t36.1.length : Int) == 1)))))] (.agg (e_api_Field (T_api_Field.mk y3_0_15 y3_1_16))), It.I ((((t36.2.2 == 0) && (t36.2.1 == a2)) && ((t36.1.length : Int) == 1)) == true) [(101, (bif ((((t36.2.2 == 0) && (t36.2.1 == a2)) && ((t36.1.length : Int) == 1)) == true) then (.agg (e_api_Field (rd t36.1 0))) else .v undef)), (102, (bif ((((t36.2.2 == 0) && (t36.2.1 == a2)) && ((t36.1.length : Int) == 1)) == true) then (.agg (e_api_Field (T_api_Field.mk y3_0_15 y3_1_16))) else .v undef)), (98, (.v (.bool (((t36.2.2 == 0) && (t36.2.1 == a2)) && ((t36.1.length : Int) == 1)))))] (.v (.bool ((rd t36.1 0).Name == (T_api_Field.mk y3_0_15 y3_1_16).Name && ((rd t36.1 0).Value == (T_api_Field.mk y3_0_15 y3_1_16).Value && true)))), ⟨true, [(98, (.v (.bool (((t36.2.2 == 0) && (t36.2.1 == a2)) && ((t36.1.length : Int) == 1))))), (103, (bif ((((t36.2.2 == 0) && (t36.2.1 == a2)) && ((t36.1.length : Int) == 1)) == true) then (.v (.bool ((rd t36.1 0).Name == (T_api_Field.mk y3_0_15 y3_1_16).Name && ((rd t36.1 0).Value == (T_api_Field.mk y3_0_15 y3_1_16).Value && true)))) else .v undef))], (.v (.bool ((((t36.2.2 == 0) && (t36.2.1 == a2)) && ((t36.1.length : Int) == 1)) && ((rd t36.1 0).Name == (T_api_Field.mk y3_0_15 y3_1_16).Name && ((rd t36.1 0).Value == (T_api_Field.mk y3_0_15 y3_1_16).Value && true)))))⟩, ⟨true, [(104, (.v (.bool ((((t36.2.2 == 0) && (t36.2.1 == a2)) && ((t36.1.length : Int) == 1)) && ((rd t36.1 0).Name == (T_api_Field.mk y3_0_15 y3_1_16).Name && ((rd t36.1 0).Value == (T_api_Field.mk y3_0_15 y3_1_16).Value && true))))))], (.v (.bool ((((t36.2.2 == 0) && (t36.2.1 == a2)) && ((t36.1.length : Int) == 1)) && ((rd t36.1 0).Name == (T_api_Field.mk y3_0_15 y3_1_16).Name && ((rd t36.1 0).Value == (T_api_Field.mk y3_0_15 y3_1_16).Value && true)))))⟩] [[], [0], [1], [2], [2], [2, 3, 4], [2, 5], [6], [7], [7, 8], [7, 9], [7, 10], [11], [12], [12, 13], [12, 14], [12], [12, 15, 16], [12, 17], [18]] mixed (by kernel_rfl) ?_ ?_
            · refine TxtE.cons rfl ⟨.same _, trivial⟩ rfl (VOk.g (VOk.mv (d := (.v (.int .i64 t36.2.2))) rfl rfl)) ?_
              refine TxtE.cons rfl ⟨.same _, trivial⟩ rfl (VOk.g (VOk.arith (op := .eql) (k := .i64) (a := t36.2.2) (b := 0) rfl rfl rfl rfl)) ?_
              refine TxtE.cons rfl ⟨.same _, trivial⟩ rfl (VOk.g (VOk.mv (d := (.v (.bool (t36.2.2 == 0)))) rfl rfl)) ?_
              refine TxtE.consI rfl ⟨.same _, .same _, trivial⟩ rfl rfl (.one rfl) (fun hw38 => (VOk.g (VOk.mv (d := (S t36.2.1)) rfl rfl))) ?_
              refine TxtE.consI rfl ⟨.same _, .same _, trivial⟩ rfl rfl (.one rfl) (fun hw38 => (VOk.g (VOk.mv (d := (S a2)) rfl rfl))) ?_
              refine TxtE.consI rfl ⟨.same _, .same _, .same _, trivial⟩ rfl rfl (.one rfl) (fun hw38 => (GOk.fr (fr' := [(89, (S t36.2.1)), (90, (S a2))]) ⟨DLe.of_eq (cT hw38).symm, DLe.of_eq (cT hw38).symm, trivial⟩ (VOk.g (VOk.strOp (op := .eql) (a := t36.2.1) (b := a2) rfl rfl rfl rfl)))) ?_
              refine TxtE.cons rfl ⟨.same _, .same _, trivial⟩ rfl (VOk.g (VOk.to (VOk.pickI (b := (t36.2.2 == 0)) (p := (t36.2.1 == a2)) (q := false) rfl rfl (fun hp39 => (cT (t_beq hp39))) (fun hp39 => rfl)) (pickAnd (t36.2.2 == 0) (t36.2.1 == a2)))) ?_
              refine TxtE.cons rfl ⟨.same _, trivial⟩ rfl (VOk.g (VOk.mv (d := (.v (.bool ((t36.2.2 == 0) && (t36.2.1 == a2))))) rfl rfl)) ?_
              refine TxtE.consI rfl ⟨.same _, .same _, trivial⟩ rfl rfl (.one rfl) (fun hw40 => (VOk.g (VOk.mv (d := (L 2 e_api_Field t36.1)) rfl rfl))) ?_
              refine TxtE.consI rfl ⟨.same _, .same _, trivial⟩ rfl rfl (.one rfl) (fun hw40 => (GOk.fr (fr' := [(94, (L 2 e_api_Field t36.1))]) ⟨DLe.of_eq (cT hw40).symm, trivial⟩ (VOk.g (VOk.lenL (e := e_api_Field) (xs := t36.1) rfl Tryd.underlying22 rfl)))) ?_
              refine TxtE.consI rfl ⟨.same _, .same _, trivial⟩ rfl rfl (.one rfl) (fun hw40 => (GOk.fr (fr' := [(95, (.v (.int .i64 (t36.1.length : Int))))]) ⟨DLe.of_eq (cT hw40).symm, trivial⟩ (VOk.g (VOk.arith (op := .eql) (k := .i64) (a := (t36.1.length : Int)) (b := 1) rfl rfl rfl rfl)))) ?_
              refine TxtE.cons rfl ⟨.same _, .same _, trivial⟩ rfl (VOk.g (VOk.to (VOk.pickI (b := ((t36.2.2 == 0) && (t36.2.1 == a2))) (p := ((t36.1.length : Int) == 1)) (q := false) rfl rfl (fun hp41 => (cT (t_beq hp41))) (fun hp41 => rfl)) (pickAnd ((t36.2.2 == 0) && (t36.2.1 == a2)) ((t36.1.length : Int) == 1)))) ?_
              refine TxtE.cons rfl ⟨.same _, trivial⟩ rfl (VOk.g (VOk.mv (d := (.v (.bool (((t36.2.2 == 0) && (t36.2.1 == a2)) && ((t36.1.length : Int) == 1))))) rfl rfl)) ?_
              refine TxtE.consI rfl ⟨.same _, .same _, trivial⟩ rfl rfl (.one rfl) (fun hw42 => (VOk.g (VOk.mv (d := (L 2 e_api_Field t36.1)) rfl rfl))) ?_
              refine TxtE.consI rfl ⟨.same _, .same _, trivial⟩ rfl rfl (.one rfl) (fun hw42 => (GOk.fr (fr' := [(99, (L 2 e_api_Field t36.1))]) ⟨DLe.of_eq (cT hw42).symm, trivial⟩ (VOk.g (VOk.indexL (sz := 2) (e := e_api_Field) (xs := t36.1) (i := 0) rfl Tryd.underlying22 sz34 rfl rfl (c43 hw42))))) ?_
              refine TxtE.consI rfl ⟨.same _, .same _, trivial⟩ rfl rfl (.one rfl) (fun hw42 => (GOk.fr (fr' := [(100, (.fp (e_api_Field (rd t36.1 0)) 0))]) ⟨DLe.of_eq (cT hw42).symm, trivial⟩ (VOk.g (VOk.to (d' := (.agg (e_api_Field (rd t36.1 0)))) (.loadFpAgg rfl Tryd.underlying34 rfl sz34 rfl rfl) rfl)))) ?_
              refine TxtE.consI rfl ⟨.same _, .same _, trivial⟩ rfl rfl (.one rfl) (fun hw42 => (VOk.g (VOk.to (d' := (.agg (e_api_Field (T_api_Field.mk y3_0_15 y3_1_16)))) (.loadBAgg rfl Tryd.underlying34 rfl sz34 rfl rfl rfl) rfl))) ?_
              refine TxtE.consI rfl ⟨.same _, .same _, .same _, trivial⟩ rfl rfl (.one rfl) (fun hw42 => (GOk.fr (fr' := [(101, (.agg (e_api_Field (rd t36.1 0)))), (102, (.agg (e_api_Field (T_api_Field.mk y3_0_15 y3_1_16))))]) ⟨DLe.of_eq (cT hw42).symm, DLe.of_eq (cT hw42).symm, trivial⟩ (VOk.g (VOk.eqS' (op := .eql) (d := (.v (.bool ((rd t36.1 0).Name == (T_api_Field.mk y3_0_15 y3_1_16).Name && ((rd t36.1 0).Value == (T_api_Field.mk y3_0_15 y3_1_16).Value && true))))) rfl (.inl rfl) (eqt34 9998) ag34 eg34 rfl rfl rfl rfl)))) ?_
              refine TxtE.cons rfl ⟨.same _, .same _, trivial⟩ rfl (VOk.g (VOk.to (VOk.pickI (b := (((t36.2.2 == 0) && (t36.2.1 == a2)) && ((t36.1.length : Int) == 1))) (p := ((rd t36.1 0).Name == (T_api_Field.mk y3_0_15 y3_1_16).Name && ((rd t36.1 0).Value == (T_api_Field.mk y3_0_15 y3_1_16).Value && true))) (q := false) rfl rfl (fun hp44 => (cT (t_beq hp44))) (fun hp44 => rfl)) (pickAnd (((t36.2.2 == 0) && (t36.2.1 == a2)) && ((t36.1.length : Int) == 1)) ((rd t36.1 0).Name == (T_api_Field.mk y3_0_15 y3_1_16).Name && ((rd t36.1 0).Value == (T_api_Field.mk y3_0_15 y3_1_16).Value && true))))) ?_
              refine TxtE.cons rfl ⟨.same _, trivial⟩ rfl (VOk.g (VOk.asg (d := (.v (.bool ((((t36.2.2 == 0) && (t36.2.1 == a2)) && ((t36.1.length : Int) == 1)) && ((rd t36.1 0).Name == (T_api_Field.mk y3_0_15 y3_1_16).Name && ((rd t36.1 0).Value == (T_api_Field.mk y3_0_15 y3_1_16).Value && true)))))) rfl rfl)) ?_
              exact .done (.rf rfl rfl)
            refine Ok.ret ?_
            obtain rfl := Option.some.inj H
            exact ⟨.inl rfl, ⟨_, (.cons (.tmp rfl) .nil), rfl⟩, trivial⟩

end Go.Proofs.YtpdhjbjkakpejaaDoor.Sh
