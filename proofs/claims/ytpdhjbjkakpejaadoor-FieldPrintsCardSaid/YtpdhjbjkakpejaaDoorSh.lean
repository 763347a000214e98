import Derived.Test.YtpdhjbjkakpejaaDoorProg
import Derived.Test.YtpdhjbjkakpejaaDoorSha
namespace Go.Proofs.YtpdhjbjkakpejaaDoor.Sh
open Go Go.RowKit Go.Proofs.Vx
set_option linter.unusedVariables false

set_option maxRecDepth 100000
set_option maxHeartbeats 1000000
/-! watchbill/field.ParseType: function 21 -/
def field_ParseType.l0 (k : Nat) (a0 : Str) (t3 : Str × T_field_scanner) (t7 : Str × T_field_scanner) : Nat → Str → Int → List T_api_Field → Option (Str × (List T_api_Field) × Int)
  | 0, _, _, _ => none
  | m19 + 1, y15_0_14, y15_1_15, y3_13 => ((field_scanner_blanks k (T_field_scanner.mk y15_0_14 y15_1_15)).bind fun (t20 : T_field_scanner) => (if (t20.At_ == (a0.length : Int)) = true then (if t3.1.length + ([47] : Str).length ≤ 9223372036854775807 then (if (t3.1 ++ ([47] : Str)).length + t7.1.length ≤ 9223372036854775807 then ((field_lower k ((t3.1 ++ ([47] : Str)) ++ t7.1)).bind fun (t24 : Str) => some (t24, y3_13, 0)) else none) else none) else ((field_scanner_sign t20 59).bind fun (t26 : Bool × T_field_scanner) => (if (!t26.1) = true then some (([] : Str), ([] : List T_api_Field), 4) else ((field_scanner_param k t26.2).bind fun (t28 : T_api_Field × Bool × T_field_scanner) => ((field_Param k y3_13 t28.1.Name).bind fun (t30 : Str × Bool) => (if ((!t28.2.1) || t30.2) = true then some (([] : Str), ([] : List T_api_Field), 4) else (if (y3_13.length + ([t28.1] : List T_api_Field).length) * 32 ≤ 140737488355328 then field_ParseType.l0 k a0 t3 t7 m19 t28.2.2.S_ t28.2.2.At_ (y3_13 ++ ([t28.1] : List T_api_Field)) else none))))))))
def field_ParseType (k : Nat) (a0 : Str) : Option (Str × (List T_api_Field) × Int) := ((field_scanner_blanks k (T_field_scanner.mk a0 0)).bind fun (t1 : T_field_scanner) => ((field_scanner_token k t1).bind fun (t3 : Str × T_field_scanner) => ((field_scanner_sign t3.2 47).bind fun (t5 : Bool × T_field_scanner) => ((field_scanner_token k t5.2).bind fun (t7 : Str × T_field_scanner) => (if (((t3.1 == ([] : Str)) || (!t5.1)) || (t7.1 == ([] : Str))) = true then some (([] : Str), ([] : List T_api_Field), 31) else field_ParseType.l0 k a0 t3 t7 k t7.2.S_ t7.2.At_ ([] : List T_api_Field))))))
theorem field_ParseType.ok {k : Nat} {a0 : Str} {r : Str × (List T_api_Field) × Int} (H : field_ParseType k a0 = some r) : Vx.Fn Tryd.prog 21 [(S a0)] [] (.tup [(S r.1), (L 2 e_api_Field r.2.1), (.v (.int .i64 r.2.2))]) [] := by
  unfold field_ParseType at H
  refine Vx.Fn.of_okR Tryd.func21 rfl (Nat.le_of_ble_eq_true rfl) ?_
  refine Ok.seq ?_
  refine Ok.region (σ' := ⟨[(0, (S a0)), (3, (.sref 3))], [(3, (.rows true 54 2 (([] : List T_api_Field).map e_api_Field)))]⟩) ?_ ?_
  · refine .cv (VOk.asg (d := (S ([] : Str))) rfl rfl) rfl rfl ?_
    refine OpsOk.cons rfl (.nilT 3 54 2 (.inl rfl) rfl rfl) ?_
    refine .cv (VOk.asg (d := (.v (.int .i64 0))) rfl rfl) rfl rfl ?_
    exact .done (.rf rfl rfl)
  refine Ok.seq ?_
  refine Ok.region (σ' := ⟨[(0, (S a0)), (3, (.sref 3)), (5, (.bref 15 0))], [(3, (.rows true 54 2 (([] : List T_api_Field).map e_api_Field))), (15, (.box .ex [(S ((T_field_scanner.mk a0 0).S_)), (.v (.int .i64 ((T_field_scanner.mk a0 0).At_)))]))]⟩) ?_ ?_
  · refine .cv (VOk.mv (d := (S a0)) rfl rfl) rfl rfl ?_
    refine .cv (VOk.to (d' := (.agg (e_field_scanner (T_field_scanner.mk a0 0)))) (.build [none, none] [(0, 1), (1, 1)] rfl Tryd.underlying71 (fa71 Tryd.underlying71) zo71 rfl rfl) rfl) rfl rfl ?_
    refine OpsOk.cons rfl (OpOk.box 15 (cells := [(S ((T_field_scanner.mk a0 0).S_)), (.v (.int .i64 ((T_field_scanner.mk a0 0).At_)))]) rfl rfl rfl rfl) ?_
    refine .cv (VOk.asg (d := (.bref 15 0)) rfl rfl) rfl rfl ?_
    exact .done (.rf rfl rfl)
  refine Ok.seq ?_
  obtain ⟨t1, h2, H⟩ := bindE H
  refine Ok.region (σ' := ⟨[(0, (S a0)), (3, (.sref 3)), (5, (.bref 15 0))], [(3, (.rows true 54 2 (([] : List T_api_Field).map e_api_Field))), (15, (.box .ex [(S t1.S_), (.v (.int .i64 t1.At_))]))]⟩) ?_ ?_
  · refine .cv (VOk.mv (d := (.bref 15 0)) rfl rfl) rfl rfl ?_
    refine OpsOk.cons rfl (OpOk.callB (e := .ex) (ds0 := [(.bref 15 0)]) 15 rfl (.same _) cl45 (fun b => ((field_scanner_blanks.ok h2) b)) rfl ⟨.same _, trivial⟩ rfl rfl rfl rfl rfl) ?_
    exact .done (.rf rfl rfl)
  refine Ok.seq ?_
  obtain ⟨t3, h4, H⟩ := bindE H
  refine Ok.region (σ' := ⟨[(0, (S a0)), (3, (.sref 3)), (5, (.bref 15 0)), (6, (S t3.1))], [(3, (.rows true 54 2 (([] : List T_api_Field).map e_api_Field))), (15, (.box .ex [(S t3.2.S_), (.v (.int .i64 t3.2.At_))]))]⟩) ?_ ?_
  · refine .cv (VOk.mv (d := (.bref 15 0)) rfl rfl) rfl rfl ?_
    refine OpsOk.cons rfl (OpOk.callB (e := .ex) (ds0 := [(.bref 15 0)]) 15 rfl (.same _) cl46 (fun b => ((field_scanner_token.ok h4) b)) rfl ⟨.same _, trivial⟩ rfl rfl rfl rfl rfl) ?_
    refine .cv (VOk.asg (d := (S t3.1)) rfl rfl) rfl rfl ?_
    exact .done (.rf rfl rfl)
  refine Ok.seq ?_
  obtain ⟨t5, h6, H⟩ := bindE H
  refine Ok.region (σ' := ⟨[(0, (S a0)), (3, (.sref 3)), (5, (.bref 15 0)), (6, (S t3.1)), (7, (.v (.bool t5.1)))], [(3, (.rows true 54 2 (([] : List T_api_Field).map e_api_Field))), (15, (.box .ex [(S t5.2.S_), (.v (.int .i64 t5.2.At_))]))]⟩) ?_ ?_
  · refine .cv (VOk.mv (d := (.bref 15 0)) rfl rfl) rfl rfl ?_
    refine OpsOk.cons rfl (OpOk.callB (e := .ex) (ds0 := [(.bref 15 0), (.v (.int .u8 47))]) 15 rfl (.same _) cl47 (fun b => ((field_scanner_sign.ok h6) b)) rfl ⟨.same _, .same _, trivial⟩ rfl rfl rfl rfl rfl) ?_
    refine .cv (VOk.asg (d := (.v (.bool t5.1))) rfl rfl) rfl rfl ?_
    exact .done (.rf rfl rfl)
  refine Ok.seq ?_
  obtain ⟨t7, h8, H⟩ := bindE H
  refine Ok.region (σ' := ⟨[(0, (S a0)), (3, (.sref 3)), (5, (.bref 15 0)), (6, (S t3.1)), (7, (.v (.bool t5.1))), (8, (S t7.1))], [(3, (.rows true 54 2 (([] : List T_api_Field).map e_api_Field))), (15, (.box .ex [(S t7.2.S_), (.v (.int .i64 t7.2.At_))]))]⟩) ?_ ?_
  · refine .cv (VOk.mv (d := (.bref 15 0)) rfl rfl) rfl rfl ?_
    refine OpsOk.cons rfl (OpOk.callB (e := .ex) (ds0 := [(.bref 15 0)]) 15 rfl (.same _) cl46 (fun b => ((field_scanner_token.ok h8) b)) rfl ⟨.same _, trivial⟩ rfl rfl rfl rfl rfl) ?_
    refine .cv (VOk.asg (d := (S t7.1)) rfl rfl) rfl rfl ?_
    exact .done (.rf rfl rfl)
  refine Ok.seq ?_
  refine Ok.seq ?_
  refine Ok.region (σ' := ⟨[(0, (S a0)), (3, (.sref 3)), (5, (.bref 15 0)), (6, (S t3.1)), (8, (S t7.1)), (33, (.v (.bool (((t3.1 == ([] : Str)) || (!t5.1)) || (t7.1 == ([] : Str))))))], [(3, (.rows true 54 2 (([] : List T_api_Field).map e_api_Field))), (15, (.box .ex [(S t7.2.S_), (.v (.int .i64 t7.2.At_))]))]⟩) ?_ ?_
  · refine .cv (VOk.mv (d := (S t3.1)) rfl rfl) rfl rfl ?_
    refine .cv (VOk.strOp (op := .eql) (a := t3.1) (b := ([] : Str)) rfl rfl rfl rfl) rfl rfl ?_
    refine .cv (VOk.mv (d := (.v (.bool (t3.1 == ([] : Str))))) rfl rfl) rfl rfl ?_
    refine OpsOk.consI rfl rfl rfl (.one rfl) rfl (fun hw9 => (VOk.g (VOk.mv (d := (.v (.bool t5.1))) rfl rfl))) ?_
    refine OpsOk.consI rfl rfl rfl (.one rfl) rfl (fun hw9 => (GOk.fr (fr' := [(27, (.v (.bool t5.1)))]) ⟨DLe.of_eq (cT hw9).symm, trivial⟩ (VOk.g (VOk.not (b := t5.1) rfl rfl)))) ?_
    refine .cv (VOk.to (VOk.pickI (b := (t3.1 == ([] : Str))) (p := true) (q := (!t5.1)) rfl rfl (fun hp10 => rfl) (fun hp10 => (cT (f_beq hp10)))) (pickOr (t3.1 == ([] : Str)) (!t5.1))) rfl rfl ?_
    refine .cv (VOk.mv (d := (.v (.bool ((t3.1 == ([] : Str)) || (!t5.1))))) rfl rfl) rfl rfl ?_
    refine OpsOk.consI rfl rfl rfl (.one rfl) rfl (fun hw11 => (VOk.g (VOk.mv (d := (S t7.1)) rfl rfl))) ?_
    refine OpsOk.consI rfl rfl rfl (.one rfl) rfl (fun hw11 => (GOk.fr (fr' := [(31, (S t7.1))]) ⟨DLe.of_eq (cT hw11).symm, trivial⟩ (VOk.g (VOk.strOp (op := .eql) (a := t7.1) (b := ([] : Str)) rfl rfl rfl rfl)))) ?_
    refine .cv (VOk.to (VOk.pickI (b := ((t3.1 == ([] : Str)) || (!t5.1))) (p := true) (q := (t7.1 == ([] : Str))) rfl rfl (fun hp12 => rfl) (fun hp12 => (cT (f_beq hp12)))) (pickOr ((t3.1 == ([] : Str)) || (!t5.1)) (t7.1 == ([] : Str)))) rfl rfl ?_
    exact .done (.rf rfl rfl)
  refine Ok.test (b := (((t3.1 == ([] : Str)) || (!t5.1)) || (t7.1 == ([] : Str)))) rfl (fun hb38 => ?_) (fun hb38 => ?_)
  · replace H := ifT H hb38
    refine Ok.seq ?_
    refine Ok.region (σ' := ⟨[(2, (S ([] : Str))), (3, (.sref 3)), (4, (.v (.int .i64 31)))], [(3, (.rows true 54 2 (([] : List T_api_Field).map e_api_Field)))]⟩) ?_ ?_
    · refine .cv (VOk.asg (d := (S ([] : Str))) rfl rfl) rfl rfl ?_
      refine OpsOk.cons rfl (.nilT 3 54 2 (.inl rfl) rfl rfl) ?_
      refine .cv (VOk.asg (d := (.v (.int .i64 31))) rfl rfl) rfl rfl ?_
      exact .done (.rf rfl rfl)
    refine Ok.frzL 3 (e := e_api_Field) (xs := ([] : List T_api_Field)) rfl ?_
    refine Ok.ret ?_
    obtain rfl := Option.some.inj H
    exact ⟨.inl rfl, ⟨_, (.cons (.tmp rfl) (.cons (.tmp rfl) (.cons (.tmp rfl) .nil))), rfl⟩, trivial⟩
  · replace H := ifF H hb38
    refine Ok.skip ?_
    refine Ok.block ?_
    refine Ok.le (σ' := ⟨[(0, (S a0)), (3, (.sref 3)), (5, (.bref 15 0)), (6, (S t3.1)), (8, (S t7.1))], [(3, (.rows true 54 2 (([] : List T_api_Field).map e_api_Field))), (15, (.box .ex [(S t7.2.S_), (.v (.int .i64 t7.2.At_))]))]⟩) (.rf rfl rfl) ?_
    refine Ok.loop (fun m19 σ => ∃ (y15_0_14 : Str) (y15_1_15 : Int) (y3_13 : List T_api_Field), σ = ⟨[(0, (S a0)), (3, (.sref 3)), (5, (.bref 15 0)), (6, (S t3.1)), (8, (S t7.1))], [(3, (.rows true 54 2 (y3_13.map e_api_Field))), (15, (.box .ex [(S y15_0_14), (.v (.int .i64 y15_1_15))]))]⟩ ∧ field_ParseType.l0 k a0 t3 t7 m19 y15_0_14 y15_1_15 y3_13 = some r) k ⟨t7.2.S_, t7.2.At_, ([] : List T_api_Field), rfl, H⟩ ?_
    rintro m19 σ ⟨y15_0_14, y15_1_15, y3_13, rfl, H⟩
    cases m19 with
    | zero => exact absurd H (by simp [field_ParseType.l0])
    | succ m19 =>
      unfold field_ParseType.l0 at H
      refine Ok.block ?_
      refine Ok.seq ?_
      obtain ⟨t20, h21, H⟩ := bindE H
      refine Ok.region (σ' := ⟨[(0, (S a0)), (3, (.sref 3)), (5, (.bref 15 0)), (6, (S t3.1)), (8, (S t7.1))], [(3, (.rows true 54 2 (y3_13.map e_api_Field))), (15, (.box .ex [(S t20.S_), (.v (.int .i64 t20.At_))]))]⟩) ?_ ?_
      · refine .cv (VOk.mv (d := (.bref 15 0)) rfl rfl) rfl rfl ?_
        refine OpsOk.cons rfl (OpOk.callB (e := .ex) (ds0 := [(.bref 15 0)]) 15 rfl (.same _) cl45 (fun b => ((field_scanner_blanks.ok h21) b)) rfl ⟨.same _, trivial⟩ rfl rfl rfl rfl rfl) ?_
        exact .done (.rf rfl rfl)
      refine Ok.seq ?_
      refine Ok.seq ?_
      refine Ok.region (σ' := ⟨[(0, (S a0)), (3, (.sref 3)), (5, (.bref 15 0)), (6, (S t3.1)), (8, (S t7.1)), (42, (.v (.bool (t20.At_ == (a0.length : Int)))))], [(3, (.rows true 54 2 (y3_13.map e_api_Field))), (15, (.box .ex [(S t20.S_), (.v (.int .i64 t20.At_))]))]⟩) ?_ ?_
      · refine .cv (VOk.mv (d := (.bref 15 0)) rfl rfl) rfl rfl ?_
        refine .cv (VOk.nilCheckB rfl rfl rfl) rfl rfl ?_
        refine .cv (VOk.to (VOk.fieldB rfl Tryd.underlying71 rfl sz3 rfl rfl) rfl) rfl rfl ?_
        refine .cv (VOk.loadB (d := (.v (.int .i64 t20.At_))) rfl Tryd.underlying3 rfl rfl rfl rfl) rfl rfl ?_
        refine .cv (VOk.mv (d := (S a0)) rfl rfl) rfl rfl ?_
        refine .cv (VOk.lenStr (s := a0) rfl Tryd.underlying9 rfl) rfl rfl ?_
        refine .cv (VOk.arith (op := .eql) (k := .i64) (a := t20.At_) (b := (a0.length : Int)) rfl rfl rfl rfl) rfl rfl ?_
        exact .done (.rf rfl rfl)
      refine Ok.test (b := (t20.At_ == (a0.length : Int))) rfl (fun hb37 => ?_) (fun hb37 => ?_)
      · replace H := ifT H hb37
        refine Ok.seq ?_
        obtain ⟨c22, H⟩ := assertE H
        obtain ⟨c23, H⟩ := assertE H
        obtain ⟨t24, h25, H⟩ := bindE H
        refine Ok.region (σ' := ⟨[(2, (S t24)), (3, (.sref 3)), (4, (.v (.int .i64 0)))], [(3, (.rows true 54 2 (y3_13.map e_api_Field)))]⟩) ?_ ?_
        · refine .cv (VOk.mv (d := (S t3.1)) rfl rfl) rfl rfl ?_
          refine .cv (VOk.cat (a := t3.1) (b := ([47] : Str)) rfl rfl rfl c22) rfl rfl ?_
          refine .cv (VOk.mv (d := (S t7.1)) rfl rfl) rfl rfl ?_
          refine .cv (VOk.cat (a := (t3.1 ++ ([47] : Str))) (b := t7.1) rfl rfl rfl c23) rfl rfl ?_
          refine .cg (GOk.call rfl rfl cl34 rfl (field_lower.ok h25) rfl) rfl rfl ?_
          refine .cv (VOk.mv (d := (.sref 3)) rfl rfl) rfl rfl ?_
          refine .cv (VOk.asg (d := (S t24)) rfl rfl) rfl rfl ?_
          refine .cv (VOk.asg (d := (.sref 3)) rfl rfl) rfl rfl ?_
          refine .cv (VOk.asg (d := (.v (.int .i64 0))) rfl rfl) rfl rfl ?_
          exact .done (.rf rfl rfl)
        refine Ok.frzL 3 (e := e_api_Field) (xs := y3_13) rfl ?_
        refine Ok.ret ?_
        obtain rfl := Option.some.inj H
        exact ⟨.inl rfl, ⟨_, (.cons (.tmp rfl) (.cons (.tmp rfl) (.cons (.tmp rfl) .nil))), rfl⟩, trivial⟩
      · replace H := ifF H hb37
        refine Ok.skip ?_
        refine Ok.seq ?_
        refine Ok.seq ?_
        obtain ⟨t26, h27, H⟩ := bindE H
        refine Ok.region (σ' := ⟨[(0, (S a0)), (3, (.sref 3)), (5, (.bref 15 0)), (6, (S t3.1)), (8, (S t7.1)), (51, (.v (.bool (!t26.1))))], [(3, (.rows true 54 2 (y3_13.map e_api_Field))), (15, (.box .ex [(S t26.2.S_), (.v (.int .i64 t26.2.At_))]))]⟩) ?_ ?_
        · refine .cv (VOk.mv (d := (.bref 15 0)) rfl rfl) rfl rfl ?_
          refine OpsOk.cons rfl (OpOk.callB (e := .ex) (ds0 := [(.bref 15 0), (.v (.int .u8 59))]) 15 rfl (.same _) cl47 (fun b => ((field_scanner_sign.ok h27) b)) rfl ⟨.same _, .same _, trivial⟩ rfl rfl rfl rfl rfl) ?_
          refine .cv (VOk.not (b := t26.1) rfl rfl) rfl rfl ?_
          exact .done (.rf rfl rfl)
        refine Ok.test (b := (!t26.1)) rfl (fun hb36 => ?_) (fun hb36 => ?_)
        · replace H := ifT H hb36
          refine Ok.seq ?_
          refine Ok.region (σ' := ⟨[(2, (S ([] : Str))), (3, (.sref 3)), (4, (.v (.int .i64 4)))], [(3, (.rows true 54 2 (([] : List T_api_Field).map e_api_Field)))]⟩) ?_ ?_
          · refine .cv (VOk.asg (d := (S ([] : Str))) rfl rfl) rfl rfl ?_
            refine OpsOk.cons rfl (.nilT 3 54 2 (.inl rfl) rfl rfl) ?_
            refine .cv (VOk.asg (d := (.v (.int .i64 4))) rfl rfl) rfl rfl ?_
            exact .done (.rf rfl rfl)
          refine Ok.frzL 3 (e := e_api_Field) (xs := ([] : List T_api_Field)) rfl ?_
          refine Ok.ret ?_
          obtain rfl := Option.some.inj H
          exact ⟨.inl rfl, ⟨_, (.cons (.tmp rfl) (.cons (.tmp rfl) (.cons (.tmp rfl) .nil))), rfl⟩, trivial⟩
        · replace H := ifF H hb36
          refine Ok.skip ?_
          refine Ok.seq ?_
          obtain ⟨t28, h29, H⟩ := bindE H
          refine Ok.region (σ' := ⟨[(0, (S a0)), (3, (.sref 3)), (5, (.bref 15 0)), (6, (S t3.1)), (8, (S t7.1)), (9, (.bref 9 0)), (10, (.v (.bool t28.2.1)))], [(3, (.rows true 54 2 (y3_13.map e_api_Field))), (9, (.box .ex [(S t28.1.Name), (S t28.1.Value)])), (15, (.box .ex [(S t28.2.2.S_), (.v (.int .i64 t28.2.2.At_))]))]⟩) ?_ ?_
          · refine .cv (VOk.mv (d := (.bref 15 0)) rfl rfl) rfl rfl ?_
            refine OpsOk.cons rfl (OpOk.callB (e := .ex) (ds0 := [(.bref 15 0)]) 15 rfl (.same _) cl48 (fun b => ((field_scanner_param.ok h29) b)) rfl ⟨.same _, trivial⟩ rfl rfl rfl rfl rfl) ?_
            refine .cv (VOk.mv (d := (.tup [(.agg (e_api_Field t28.1)), (.v (.bool t28.2.1))])) rfl rfl) rfl rfl ?_
            refine .cv (VOk.extract (d := (.agg (e_api_Field t28.1))) rfl rfl rfl) rfl rfl ?_
            refine .cv (VOk.extract (d := (.v (.bool t28.2.1))) rfl rfl rfl) rfl rfl ?_
            refine OpsOk.cons rfl (OpOk.alloc 9 [none, none] rfl zo54 rfl rfl) ?_
            refine OpsOk.cons rfl (OpOk.to (σ2 := St.put ⟨_, (9, (.box .ex [(S t28.1.Name), (S t28.1.Value)])) :: _⟩ _ .junk) (.storeB rfl sz54 rfl rfl rfl rfl rfl rfl) rfl) ?_
            refine .cv (VOk.asg (d := (.v (.bool t28.2.1))) rfl rfl) rfl rfl ?_
            exact .done (.rf rfl rfl)
          refine Ok.seq ?_
          refine Ok.seq ?_
          obtain ⟨t30, h31, H⟩ := bindE H
          refine Ok.region (σ' := ⟨[(0, (S a0)), (3, (.sref 3)), (5, (.bref 15 0)), (6, (S t3.1)), (8, (S t7.1)), (9, (.bref 9 0)), (10, (.v (.bool t28.2.1))), (12, (.v (.bool t30.2)))], [(3, (.rows true 54 2 (y3_13.map e_api_Field))), (9, (.box .ex [(S t28.1.Name), (S t28.1.Value)])), (15, (.box .ex [(S t28.2.2.S_), (.v (.int .i64 t28.2.2.At_))]))]⟩) ?_ ?_
          · refine .cv (VOk.mv (d := (.sref 3)) rfl rfl) rfl rfl ?_
            refine .cv (VOk.to (VOk.fieldB rfl Tryd.underlying54 rfl sz9 rfl rfl) rfl) rfl rfl ?_
            refine .cv (VOk.loadB (d := (S t28.1.Name)) rfl Tryd.underlying9 rfl rfl rfl rfl) rfl rfl ?_
            refine .cg (GOk.callV rfl rfl cl23 rfl (field_Param.ok h31) rfl) rfl rfl ?_
            refine .cv (VOk.mv (d := (.tup [(S t30.1), (.v (.bool t30.2))])) rfl rfl) rfl rfl ?_
            refine .cv (VOk.extract (d := (S t30.1)) rfl rfl rfl) rfl rfl ?_
            refine .cv (VOk.extract (d := (.v (.bool t30.2))) rfl rfl rfl) rfl rfl ?_
            refine .cv (VOk.asg (d := (S t30.1)) rfl rfl) rfl rfl ?_
            refine .cv (VOk.asg (d := (.v (.bool t30.2))) rfl rfl) rfl rfl ?_
            exact .done (.rf rfl rfl)
          refine Ok.seq ?_
          refine Ok.region (σ' := ⟨[(0, (S a0)), (3, (.sref 3)), (5, (.bref 15 0)), (6, (S t3.1)), (8, (S t7.1)), (9, (.bref 9 0)), (68, (.v (.bool ((!t28.2.1) || t30.2))))], [(3, (.rows true 54 2 (y3_13.map e_api_Field))), (9, (.box .ex [(S t28.1.Name), (S t28.1.Value)])), (15, (.box .ex [(S t28.2.2.S_), (.v (.int .i64 t28.2.2.At_))]))]⟩) ?_ ?_
          · refine .cv (VOk.mv (d := (.v (.bool t28.2.1))) rfl rfl) rfl rfl ?_
            refine .cv (VOk.not (b := t28.2.1) rfl rfl) rfl rfl ?_
            refine .cv (VOk.mv (d := (.v (.bool (!t28.2.1)))) rfl rfl) rfl rfl ?_
            refine OpsOk.consI rfl rfl rfl (.one rfl) rfl (fun hw32 => (VOk.g (VOk.mv (d := (.v (.bool t30.2))) rfl rfl))) ?_
            refine .cv (VOk.to (VOk.pickI (b := (!t28.2.1)) (p := true) (q := t30.2) rfl rfl (fun hp33 => rfl) (fun hp33 => (cT (f_beq hp33)))) (pickOr (!t28.2.1) t30.2)) rfl rfl ?_
            exact .done (.rf rfl rfl)
          refine Ok.test (b := ((!t28.2.1) || t30.2)) rfl (fun hb35 => ?_) (fun hb35 => ?_)
          · replace H := ifT H hb35
            refine Ok.seq ?_
            refine Ok.region (σ' := ⟨[(2, (S ([] : Str))), (3, (.sref 3)), (4, (.v (.int .i64 4)))], [(3, (.rows true 54 2 (([] : List T_api_Field).map e_api_Field)))]⟩) ?_ ?_
            · refine .cv (VOk.asg (d := (S ([] : Str))) rfl rfl) rfl rfl ?_
              refine OpsOk.cons rfl (.nilT 3 54 2 (.inl rfl) rfl rfl) ?_
              refine .cv (VOk.asg (d := (.v (.int .i64 4))) rfl rfl) rfl rfl ?_
              exact .done (.rf rfl rfl)
            refine Ok.frzL 3 (e := e_api_Field) (xs := ([] : List T_api_Field)) rfl ?_
            refine Ok.ret ?_
            obtain rfl := Option.some.inj H
            exact ⟨.inl rfl, ⟨_, (.cons (.tmp rfl) (.cons (.tmp rfl) (.cons (.tmp rfl) .nil))), rfl⟩, trivial⟩
          · replace H := ifF H hb35
            refine Ok.skip ?_
            obtain ⟨c34, H⟩ := assertE H
            refine Ok.region (σ' := ⟨[(0, (S a0)), (3, (.sref 3)), (5, (.bref 15 0)), (6, (S t3.1)), (8, (S t7.1))], [(3, (.rows true 54 2 ((y3_13 ++ ([t28.1] : List T_api_Field)).map e_api_Field))), (15, (.box .ex [(S t28.2.2.S_), (.v (.int .i64 t28.2.2.At_))]))]⟩) ?_ ?_
            · refine .cv (VOk.mv (d := (.sref 3)) rfl rfl) rfl rfl ?_
              refine .cv (VOk.to (d' := (.agg (e_api_Field t28.1))) (.loadBAgg rfl Tryd.underlying54 rfl sz54 rfl rfl rfl) rfl) rfl rfl ?_
              refine .cg (GOk.to (d' := (L 2 e_api_Field ([t28.1] : List T_api_Field))) (GOk.lit rfl Tryd.underlying42 sz54 zs54 rfl rfl rfl rfl) rfl) rfl rfl ?_
              refine OpsOk.cons rfl (OpOk.appendL (e := e_api_Field) (xs := y3_13) (ys := ([t28.1] : List T_api_Field)) rfl Tryd.underlying42 elt54 rfl rfl rfl c34 rfl) ?_
              refine .cv (VOk.asg (d := (.sref 3)) rfl rfl) rfl rfl ?_
              exact .done (.rf rfl rfl)
            exact ⟨m19, Nat.lt_succ_self m19, t28.2.2.S_, t28.2.2.At_, (y3_13 ++ ([t28.1] : List T_api_Field)), rfl, H⟩

/-! watchbill/watchbilllaw07.awake: function 8 -/
def watchbilllaw07_awake (k : Nat) : Option Bool := ((field_Print k ([(T_api_Field.mk ([67, 111, 110, 116, 101, 110, 116, 45, 73, 68] : Str) ([60, 97, 64, 98, 62] : Str))] : List T_api_Field)).bind fun (t1 : Str × Int) => (if t1.1.length + ([120] : Str).length ≤ 9223372036854775807 then ((field_Parse k (t1.1 ++ ([120] : Str))).bind fun (t4 : (List T_api_Field) × Str × Int) => ((field_ParseType k ([84, 101, 120, 116, 47, 88, 77, 76, 59, 32, 97, 61, 34, 98, 92, 34, 99, 34] : Str)).bind fun (t6 : Str × (List T_api_Field) × Int) => (if (((((((((t1.1 == ([67, 111, 110, 116, 101, 110, 116, 45, 73, 68, 58, 32, 60, 97, 64, 98, 62, 13, 10, 13, 10] : Str)) && (t1.2 == 0)) && ((t4.1.length : Int) == 1)) && (t4.2.1 == ([120] : Str))) && (t4.2.2 == 0)) && (t6.1 == ([116, 101, 120, 116, 47, 120, 109, 108] : Str))) && ((t6.2.1.length : Int) == 1)) == true) = true → (0 : Int) ≤ 0 ∧ 0 < (t6.2.1.length : Int)) then (((if ((((((((((t1.1 == ([67, 111, 110, 116, 101, 110, 116, 45, 73, 68, 58, 32, 60, 97, 64, 98, 62, 13, 10, 13, 10] : Str)) && (t1.2 == 0)) && ((t4.1.length : Int) == 1)) && (t4.2.1 == ([120] : Str))) && (t4.2.2 == 0)) && (t6.1 == ([116, 101, 120, 116, 47, 120, 109, 108] : Str))) && ((t6.2.1.length : Int) == 1)) && (((rd t6.2.1 0).Value) == ([98, 34, 99] : Str))) && (t6.2.2 == 0)) == true) = true then field_Token k ([97, 46, 98] : Str) else some default)).bind fun (t26 : Bool) => (((if (((((((((((t1.1 == ([67, 111, 110, 116, 101, 110, 116, 45, 73, 68, 58, 32, 60, 97, 64, 98, 62, 13, 10, 13, 10] : Str)) && (t1.2 == 0)) && ((t4.1.length : Int) == 1)) && (t4.2.1 == ([120] : Str))) && (t4.2.2 == 0)) && (t6.1 == ([116, 101, 120, 116, 47, 120, 109, 108] : Str))) && ((t6.2.1.length : Int) == 1)) && (((rd t6.2.1 0).Value) == ([98, 34, 99] : Str))) && (t6.2.2 == 0)) && t26) == true) = true then field_Token k ([97, 47, 98] : Str) else some default)).bind fun (t30 : Bool) => some (((((((((((t1.1 == ([67, 111, 110, 116, 101, 110, 116, 45, 73, 68, 58, 32, 60, 97, 64, 98, 62, 13, 10, 13, 10] : Str)) && (t1.2 == 0)) && ((t4.1.length : Int) == 1)) && (t4.2.1 == ([120] : Str))) && (t4.2.2 == 0)) && (t6.1 == ([116, 101, 120, 116, 47, 120, 109, 108] : Str))) && ((t6.2.1.length : Int) == 1)) && (((rd t6.2.1 0).Value) == ([98, 34, 99] : Str))) && (t6.2.2 == 0)) && t26) && (!t30)))) else none))) else none))
theorem watchbilllaw07_awake.ok {k : Nat} {r : Bool} (H : watchbilllaw07_awake k = some r) : Vx.Fn Tryd.prog 8 [] [] (.v (.bool r)) [] := by
  unfold watchbilllaw07_awake at H
  refine Vx.Fn.of_okR Tryd.func8 rfl (Nat.le_of_ble_eq_true rfl) ?_
  refine Ok.seq ?_
  refine Ok.region (σ' := ⟨[], []⟩) ?_ ?_
  · refine .cv (VOk.asg (d := (.v (.bool false))) rfl rfl) rfl rfl ?_
    exact .done (.rf rfl rfl)
  refine Ok.seq ?_
  obtain ⟨t1, h2, H⟩ := bindE H
  refine Ok.region (σ' := ⟨[(1, (S t1.1)), (2, (.v (.int .i64 t1.2)))], []⟩) ?_ ?_
  · refine .cv (VOk.to (d' := (.agg (e_api_Field (T_api_Field.mk ([67, 111, 110, 116, 101, 110, 116, 45, 73, 68] : Str) ([60, 97, 64, 98, 62] : Str))))) (.build [none, none] [(0, 1), (1, 1)] rfl Tryd.underlying34 (fa34 Tryd.underlying34) zo34 rfl rfl) rfl) rfl rfl ?_
    refine .cg (GOk.to (d' := (L 2 e_api_Field ([(T_api_Field.mk ([67, 111, 110, 116, 101, 110, 116, 45, 73, 68] : Str) ([60, 97, 64, 98, 62] : Str))] : List T_api_Field))) (GOk.lit rfl Tryd.underlying22 sz34 zs34 rfl rfl rfl rfl) rfl) rfl rfl ?_
    refine .cg (GOk.call rfl rfl cl10 rfl (field_Print.ok h2) rfl) rfl rfl ?_
    refine .cv (VOk.mv (d := (.tup [(S t1.1), (.v (.int .i64 t1.2))])) rfl rfl) rfl rfl ?_
    refine .cv (VOk.extract (d := (S t1.1)) rfl rfl rfl) rfl rfl ?_
    refine .cv (VOk.extract (d := (.v (.int .i64 t1.2))) rfl rfl rfl) rfl rfl ?_
    refine .cv (VOk.asg (d := (S t1.1)) rfl rfl) rfl rfl ?_
    refine .cv (VOk.asg (d := (.v (.int .i64 t1.2))) rfl rfl) rfl rfl ?_
    exact .done (.rf rfl rfl)
  refine Ok.seq ?_
  obtain ⟨c3, H⟩ := assertE H
  obtain ⟨t4, h5, H⟩ := bindE H
  refine Ok.region (σ' := ⟨[(1, (S t1.1)), (2, (.v (.int .i64 t1.2))), (3, (L 2 e_api_Field t4.1)), (4, (S t4.2.1)), (5, (.v (.int .i64 t4.2.2)))], []⟩) ?_ ?_
  · refine .cv (VOk.mv (d := (S t1.1)) rfl rfl) rfl rfl ?_
    refine .cv (VOk.cat (a := t1.1) (b := ([120] : Str)) rfl rfl rfl c3) rfl rfl ?_
    refine .cg (GOk.call rfl rfl cl11 rfl (field_Parse.ok h5) rfl) rfl rfl ?_
    refine .cv (VOk.mv (d := (.tup [(L 2 e_api_Field t4.1), (S t4.2.1), (.v (.int .i64 t4.2.2))])) rfl rfl) rfl rfl ?_
    refine .cv (VOk.extract (d := (L 2 e_api_Field t4.1)) rfl rfl rfl) rfl rfl ?_
    refine .cv (VOk.extract (d := (S t4.2.1)) rfl rfl rfl) rfl rfl ?_
    refine .cv (VOk.extract (d := (.v (.int .i64 t4.2.2))) rfl rfl rfl) rfl rfl ?_
    refine .cv (VOk.asg (d := (L 2 e_api_Field t4.1)) rfl rfl) rfl rfl ?_
    refine .cv (VOk.asg (d := (S t4.2.1)) rfl rfl) rfl rfl ?_
    refine .cv (VOk.asg (d := (.v (.int .i64 t4.2.2))) rfl rfl) rfl rfl ?_
    exact .done (.rf rfl rfl)
  refine Ok.seq ?_
  obtain ⟨t6, h7, H⟩ := bindE H
  refine Ok.region (σ' := ⟨[(1, (S t1.1)), (2, (.v (.int .i64 t1.2))), (3, (L 2 e_api_Field t4.1)), (4, (S t4.2.1)), (5, (.v (.int .i64 t4.2.2))), (6, (S t6.1)), (7, (L 2 e_api_Field t6.2.1)), (8, (.v (.int .i64 t6.2.2)))], []⟩) ?_ ?_
  · refine .cg (GOk.call rfl rfl cl21 rfl (field_ParseType.ok h7) rfl) rfl rfl ?_
    refine .cv (VOk.mv (d := (.tup [(S t6.1), (L 2 e_api_Field t6.2.1), (.v (.int .i64 t6.2.2))])) rfl rfl) rfl rfl ?_
    refine .cv (VOk.extract (d := (S t6.1)) rfl rfl rfl) rfl rfl ?_
    refine .cv (VOk.extract (d := (L 2 e_api_Field t6.2.1)) rfl rfl rfl) rfl rfl ?_
    refine .cv (VOk.extract (d := (.v (.int .i64 t6.2.2))) rfl rfl rfl) rfl rfl ?_
    refine .cv (VOk.asg (d := (S t6.1)) rfl rfl) rfl rfl ?_
    refine .cv (VOk.asg (d := (L 2 e_api_Field t6.2.1)) rfl rfl) rfl rfl ?_
    refine .cv (VOk.asg (d := (.v (.int .i64 t6.2.2))) rfl rfl) rfl rfl ?_
    exact .done (.rf rfl rfl)
  refine Ok.seq ?_
  obtain ⟨c21, H⟩ := assertE H
  obtain ⟨t26, h27, H⟩ := bindE H
  obtain ⟨t30, h31, H⟩ := bindE H
  refine Ok.region (σ' := ⟨[(0, (.v (.bool (((((((((((t1.1 == ([67, 111, 110, 116, 101, 110, 116, 45, 73, 68, 58, 32, 60, 97, 64, 98, 62, 13, 10, 13, 10] : Str)) && (t1.2 == 0)) && ((t4.1.length : Int) == 1)) && (t4.2.1 == ([120] : Str))) && (t4.2.2 == 0)) && (t6.1 == ([116, 101, 120, 116, 47, 120, 109, 108] : Str))) && ((t6.2.1.length : Int) == 1)) && (((rd t6.2.1 0).Value) == ([98, 34, 99] : Str))) && (t6.2.2 == 0)) && t26) && (!t30)))))], []⟩) ?_ ?_
  · refine .cv (VOk.mv (d := (S t1.1)) rfl rfl) rfl rfl ?_
    refine .cv (VOk.strOp (op := .eql) (a := t1.1) (b := ([67, 111, 110, 116, 101, 110, 116, 45, 73, 68, 58, 32, 60, 97, 64, 98, 62, 13, 10, 13, 10] : Str)) rfl rfl rfl rfl) rfl rfl ?_
    refine .cv (VOk.mv (d := (.v (.bool (t1.1 == ([67, 111, 110, 116, 101, 110, 116, 45, 73, 68, 58, 32, 60, 97, 64, 98, 62, 13, 10, 13, 10] : Str))))) rfl rfl) rfl rfl ?_
    refine OpsOk.consI rfl rfl rfl (.one rfl) rfl (fun hw8 => (VOk.g (VOk.mv (d := (.v (.int .i64 t1.2))) rfl rfl))) ?_
    refine OpsOk.consI rfl rfl rfl (.one rfl) rfl (fun hw8 => (GOk.fr (fr' := [(30, (.v (.int .i64 t1.2)))]) ⟨DLe.of_eq (cT hw8).symm, trivial⟩ (VOk.g (VOk.arith (op := .eql) (k := .i64) (a := t1.2) (b := 0) rfl rfl rfl rfl)))) ?_
    refine .cv (VOk.to (VOk.pickI (b := (t1.1 == ([67, 111, 110, 116, 101, 110, 116, 45, 73, 68, 58, 32, 60, 97, 64, 98, 62, 13, 10, 13, 10] : Str))) (p := (t1.2 == 0)) (q := false) rfl rfl (fun hp9 => (cT (t_beq hp9))) (fun hp9 => rfl)) (pickAnd (t1.1 == ([67, 111, 110, 116, 101, 110, 116, 45, 73, 68, 58, 32, 60, 97, 64, 98, 62, 13, 10, 13, 10] : Str)) (t1.2 == 0))) rfl rfl ?_
    refine .cv (VOk.mv (d := (.v (.bool ((t1.1 == ([67, 111, 110, 116, 101, 110, 116, 45, 73, 68, 58, 32, 60, 97, 64, 98, 62, 13, 10, 13, 10] : Str)) && (t1.2 == 0))))) rfl rfl) rfl rfl ?_
    refine OpsOk.consI rfl rfl rfl (.one rfl) rfl (fun hw10 => (VOk.g (VOk.mv (d := (L 2 e_api_Field t4.1)) rfl rfl))) ?_
    refine OpsOk.consI rfl rfl rfl (.one rfl) rfl (fun hw10 => (GOk.fr (fr' := [(34, (L 2 e_api_Field t4.1))]) ⟨DLe.of_eq (cT hw10).symm, trivial⟩ (VOk.g (VOk.lenL (e := e_api_Field) (xs := t4.1) rfl Tryd.underlying22 rfl)))) ?_
    refine OpsOk.consI rfl rfl rfl (.one rfl) rfl (fun hw10 => (GOk.fr (fr' := [(35, (.v (.int .i64 (t4.1.length : Int))))]) ⟨DLe.of_eq (cT hw10).symm, trivial⟩ (VOk.g (VOk.arith (op := .eql) (k := .i64) (a := (t4.1.length : Int)) (b := 1) rfl rfl rfl rfl)))) ?_
    refine .cv (VOk.to (VOk.pickI (b := ((t1.1 == ([67, 111, 110, 116, 101, 110, 116, 45, 73, 68, 58, 32, 60, 97, 64, 98, 62, 13, 10, 13, 10] : Str)) && (t1.2 == 0))) (p := ((t4.1.length : Int) == 1)) (q := false) rfl rfl (fun hp11 => (cT (t_beq hp11))) (fun hp11 => rfl)) (pickAnd ((t1.1 == ([67, 111, 110, 116, 101, 110, 116, 45, 73, 68, 58, 32, 60, 97, 64, 98, 62, 13, 10, 13, 10] : Str)) && (t1.2 == 0)) ((t4.1.length : Int) == 1))) rfl rfl ?_
    refine .cv (VOk.mv (d := (.v (.bool (((t1.1 == ([67, 111, 110, 116, 101, 110, 116, 45, 73, 68, 58, 32, 60, 97, 64, 98, 62, 13, 10, 13, 10] : Str)) && (t1.2 == 0)) && ((t4.1.length : Int) == 1))))) rfl rfl) rfl rfl ?_
    refine OpsOk.consI rfl rfl rfl (.one rfl) rfl (fun hw12 => (VOk.g (VOk.mv (d := (S t4.2.1)) rfl rfl))) ?_
    refine OpsOk.consI rfl rfl rfl (.one rfl) rfl (fun hw12 => (GOk.fr (fr' := [(39, (S t4.2.1))]) ⟨DLe.of_eq (cT hw12).symm, trivial⟩ (VOk.g (VOk.strOp (op := .eql) (a := t4.2.1) (b := ([120] : Str)) rfl rfl rfl rfl)))) ?_
    refine .cv (VOk.to (VOk.pickI (b := (((t1.1 == ([67, 111, 110, 116, 101, 110, 116, 45, 73, 68, 58, 32, 60, 97, 64, 98, 62, 13, 10, 13, 10] : Str)) && (t1.2 == 0)) && ((t4.1.length : Int) == 1))) (p := (t4.2.1 == ([120] : Str))) (q := false) rfl rfl (fun hp13 => (cT (t_beq hp13))) (fun hp13 => rfl)) (pickAnd (((t1.1 == ([67, 111, 110, 116, 101, 110, 116, 45, 73, 68, 58, 32, 60, 97, 64, 98, 62, 13, 10, 13, 10] : Str)) && (t1.2 == 0)) && ((t4.1.length : Int) == 1)) (t4.2.1 == ([120] : Str)))) rfl rfl ?_
    refine .cv (VOk.mv (d := (.v (.bool ((((t1.1 == ([67, 111, 110, 116, 101, 110, 116, 45, 73, 68, 58, 32, 60, 97, 64, 98, 62, 13, 10, 13, 10] : Str)) && (t1.2 == 0)) && ((t4.1.length : Int) == 1)) && (t4.2.1 == ([120] : Str)))))) rfl rfl) rfl rfl ?_
    refine OpsOk.consI rfl rfl rfl (.one rfl) rfl (fun hw14 => (VOk.g (VOk.mv (d := (.v (.int .i64 t4.2.2))) rfl rfl))) ?_
    refine OpsOk.consI rfl rfl rfl (.one rfl) rfl (fun hw14 => (GOk.fr (fr' := [(43, (.v (.int .i64 t4.2.2)))]) ⟨DLe.of_eq (cT hw14).symm, trivial⟩ (VOk.g (VOk.arith (op := .eql) (k := .i64) (a := t4.2.2) (b := 0) rfl rfl rfl rfl)))) ?_
    refine .cv (VOk.to (VOk.pickI (b := ((((t1.1 == ([67, 111, 110, 116, 101, 110, 116, 45, 73, 68, 58, 32, 60, 97, 64, 98, 62, 13, 10, 13, 10] : Str)) && (t1.2 == 0)) && ((t4.1.length : Int) == 1)) && (t4.2.1 == ([120] : Str)))) (p := (t4.2.2 == 0)) (q := false) rfl rfl (fun hp15 => (cT (t_beq hp15))) (fun hp15 => rfl)) (pickAnd ((((t1.1 == ([67, 111, 110, 116, 101, 110, 116, 45, 73, 68, 58, 32, 60, 97, 64, 98, 62, 13, 10, 13, 10] : Str)) && (t1.2 == 0)) && ((t4.1.length : Int) == 1)) && (t4.2.1 == ([120] : Str))) (t4.2.2 == 0))) rfl rfl ?_
    refine .cv (VOk.mv (d := (.v (.bool (((((t1.1 == ([67, 111, 110, 116, 101, 110, 116, 45, 73, 68, 58, 32, 60, 97, 64, 98, 62, 13, 10, 13, 10] : Str)) && (t1.2 == 0)) && ((t4.1.length : Int) == 1)) && (t4.2.1 == ([120] : Str))) && (t4.2.2 == 0))))) rfl rfl) rfl rfl ?_
    refine OpsOk.consI rfl rfl rfl (.one rfl) rfl (fun hw16 => (VOk.g (VOk.mv (d := (S t6.1)) rfl rfl))) ?_
    refine OpsOk.consI rfl rfl rfl (.one rfl) rfl (fun hw16 => (GOk.fr (fr' := [(47, (S t6.1))]) ⟨DLe.of_eq (cT hw16).symm, trivial⟩ (VOk.g (VOk.strOp (op := .eql) (a := t6.1) (b := ([116, 101, 120, 116, 47, 120, 109, 108] : Str)) rfl rfl rfl rfl)))) ?_
    refine .cv (VOk.to (VOk.pickI (b := (((((t1.1 == ([67, 111, 110, 116, 101, 110, 116, 45, 73, 68, 58, 32, 60, 97, 64, 98, 62, 13, 10, 13, 10] : Str)) && (t1.2 == 0)) && ((t4.1.length : Int) == 1)) && (t4.2.1 == ([120] : Str))) && (t4.2.2 == 0))) (p := (t6.1 == ([116, 101, 120, 116, 47, 120, 109, 108] : Str))) (q := false) rfl rfl (fun hp17 => (cT (t_beq hp17))) (fun hp17 => rfl)) (pickAnd (((((t1.1 == ([67, 111, 110, 116, 101, 110, 116, 45, 73, 68, 58, 32, 60, 97, 64, 98, 62, 13, 10, 13, 10] : Str)) && (t1.2 == 0)) && ((t4.1.length : Int) == 1)) && (t4.2.1 == ([120] : Str))) && (t4.2.2 == 0)) (t6.1 == ([116, 101, 120, 116, 47, 120, 109, 108] : Str)))) rfl rfl ?_
    refine .cv (VOk.mv (d := (.v (.bool ((((((t1.1 == ([67, 111, 110, 116, 101, 110, 116, 45, 73, 68, 58, 32, 60, 97, 64, 98, 62, 13, 10, 13, 10] : Str)) && (t1.2 == 0)) && ((t4.1.length : Int) == 1)) && (t4.2.1 == ([120] : Str))) && (t4.2.2 == 0)) && (t6.1 == ([116, 101, 120, 116, 47, 120, 109, 108] : Str)))))) rfl rfl) rfl rfl ?_
    refine OpsOk.consI rfl rfl rfl (.one rfl) rfl (fun hw18 => (VOk.g (VOk.mv (d := (L 2 e_api_Field t6.2.1)) rfl rfl))) ?_
    refine OpsOk.consI rfl rfl rfl (.one rfl) rfl (fun hw18 => (GOk.fr (fr' := [(51, (L 2 e_api_Field t6.2.1))]) ⟨DLe.of_eq (cT hw18).symm, trivial⟩ (VOk.g (VOk.lenL (e := e_api_Field) (xs := t6.2.1) rfl Tryd.underlying42 rfl)))) ?_
    refine OpsOk.consI rfl rfl rfl (.one rfl) rfl (fun hw18 => (GOk.fr (fr' := [(52, (.v (.int .i64 (t6.2.1.length : Int))))]) ⟨DLe.of_eq (cT hw18).symm, trivial⟩ (VOk.g (VOk.arith (op := .eql) (k := .i64) (a := (t6.2.1.length : Int)) (b := 1) rfl rfl rfl rfl)))) ?_
    refine .cv (VOk.to (VOk.pickI (b := ((((((t1.1 == ([67, 111, 110, 116, 101, 110, 116, 45, 73, 68, 58, 32, 60, 97, 64, 98, 62, 13, 10, 13, 10] : Str)) && (t1.2 == 0)) && ((t4.1.length : Int) == 1)) && (t4.2.1 == ([120] : Str))) && (t4.2.2 == 0)) && (t6.1 == ([116, 101, 120, 116, 47, 120, 109, 108] : Str)))) (p := ((t6.2.1.length : Int) == 1)) (q := false) rfl rfl (fun hp19 => (cT (t_beq hp19))) (fun hp19 => rfl)) (pickAnd ((((((t1.1 == ([67, 111, 110, 116, 101, 110, 116, 45, 73, 68, 58, 32, 60, 97, 64, 98, 62, 13, 10, 13, 10] : Str)) && (t1.2 == 0)) && ((t4.1.length : Int) == 1)) && (t4.2.1 == ([120] : Str))) && (t4.2.2 == 0)) && (t6.1 == ([116, 101, 120, 116, 47, 120, 109, 108] : Str))) ((t6.2.1.length : Int) == 1))) rfl rfl ?_
    refine .cv (VOk.mv (d := (.v (.bool (((((((t1.1 == ([67, 111, 110, 116, 101, 110, 116, 45, 73, 68, 58, 32, 60, 97, 64, 98, 62, 13, 10, 13, 10] : Str)) && (t1.2 == 0)) && ((t4.1.length : Int) == 1)) && (t4.2.1 == ([120] : Str))) && (t4.2.2 == 0)) && (t6.1 == ([116, 101, 120, 116, 47, 120, 109, 108] : Str))) && ((t6.2.1.length : Int) == 1))))) rfl rfl) rfl rfl ?_
    refine OpsOk.consI rfl rfl rfl (.one rfl) rfl (fun hw20 => (VOk.g (VOk.mv (d := (L 2 e_api_Field t6.2.1)) rfl rfl))) ?_
    refine OpsOk.consI rfl rfl rfl (.one rfl) rfl (fun hw20 => (GOk.fr (fr' := [(56, (L 2 e_api_Field t6.2.1))]) ⟨DLe.of_eq (cT hw20).symm, trivial⟩ (VOk.g (VOk.indexL (sz := 2) (e := e_api_Field) (xs := t6.2.1) (i := 0) rfl Tryd.underlying42 sz54 rfl rfl (c21 hw20))))) ?_
    refine OpsOk.consI rfl rfl rfl (.one rfl) rfl (fun hw20 => (GOk.fr (fr' := [(57, (.fp (e_api_Field (rd t6.2.1 0)) 0))]) ⟨DLe.of_eq (cT hw20).symm, trivial⟩ (VOk.g (VOk.to (VOk.fieldFp rfl Tryd.underlying54 rfl sz9 rfl) rfl)))) ?_
    refine OpsOk.consI rfl rfl rfl (.one rfl) rfl (fun hw20 => (GOk.fr (fr' := [(58, (.fp (e_api_Field (rd t6.2.1 0)) 1))]) ⟨DLe.of_eq (cT hw20).symm, trivial⟩ (VOk.g (VOk.loadFp (d := (S ((rd t6.2.1 0).Value))) rfl Tryd.underlying9 rfl rfl rfl)))) ?_
    refine OpsOk.consI rfl rfl rfl (.one rfl) rfl (fun hw20 => (GOk.fr (fr' := [(59, (S ((rd t6.2.1 0).Value)))]) ⟨DLe.of_eq (cT hw20).symm, trivial⟩ (VOk.g (VOk.strOp (op := .eql) (a := (rd t6.2.1 0).Value) (b := ([98, 34, 99] : Str)) rfl rfl rfl rfl)))) ?_
    refine .cv (VOk.to (VOk.pickI (b := (((((((t1.1 == ([67, 111, 110, 116, 101, 110, 116, 45, 73, 68, 58, 32, 60, 97, 64, 98, 62, 13, 10, 13, 10] : Str)) && (t1.2 == 0)) && ((t4.1.length : Int) == 1)) && (t4.2.1 == ([120] : Str))) && (t4.2.2 == 0)) && (t6.1 == ([116, 101, 120, 116, 47, 120, 109, 108] : Str))) && ((t6.2.1.length : Int) == 1))) (p := (((rd t6.2.1 0).Value) == ([98, 34, 99] : Str))) (q := false) rfl rfl (fun hp22 => (cT (t_beq hp22))) (fun hp22 => rfl)) (pickAnd (((((((t1.1 == ([67, 111, 110, 116, 101, 110, 116, 45, 73, 68, 58, 32, 60, 97, 64, 98, 62, 13, 10, 13, 10] : Str)) && (t1.2 == 0)) && ((t4.1.length : Int) == 1)) && (t4.2.1 == ([120] : Str))) && (t4.2.2 == 0)) && (t6.1 == ([116, 101, 120, 116, 47, 120, 109, 108] : Str))) && ((t6.2.1.length : Int) == 1)) (((rd t6.2.1 0).Value) == ([98, 34, 99] : Str)))) rfl rfl ?_
    refine .cv (VOk.mv (d := (.v (.bool ((((((((t1.1 == ([67, 111, 110, 116, 101, 110, 116, 45, 73, 68, 58, 32, 60, 97, 64, 98, 62, 13, 10, 13, 10] : Str)) && (t1.2 == 0)) && ((t4.1.length : Int) == 1)) && (t4.2.1 == ([120] : Str))) && (t4.2.2 == 0)) && (t6.1 == ([116, 101, 120, 116, 47, 120, 109, 108] : Str))) && ((t6.2.1.length : Int) == 1)) && (((rd t6.2.1 0).Value) == ([98, 34, 99] : Str)))))) rfl rfl) rfl rfl ?_
    refine OpsOk.consI rfl rfl rfl (.one rfl) rfl (fun hw23 => (VOk.g (VOk.mv (d := (.v (.int .i64 t6.2.2))) rfl rfl))) ?_
    refine OpsOk.consI rfl rfl rfl (.one rfl) rfl (fun hw23 => (GOk.fr (fr' := [(63, (.v (.int .i64 t6.2.2)))]) ⟨DLe.of_eq (cT hw23).symm, trivial⟩ (VOk.g (VOk.arith (op := .eql) (k := .i64) (a := t6.2.2) (b := 0) rfl rfl rfl rfl)))) ?_
    refine .cv (VOk.to (VOk.pickI (b := ((((((((t1.1 == ([67, 111, 110, 116, 101, 110, 116, 45, 73, 68, 58, 32, 60, 97, 64, 98, 62, 13, 10, 13, 10] : Str)) && (t1.2 == 0)) && ((t4.1.length : Int) == 1)) && (t4.2.1 == ([120] : Str))) && (t4.2.2 == 0)) && (t6.1 == ([116, 101, 120, 116, 47, 120, 109, 108] : Str))) && ((t6.2.1.length : Int) == 1)) && (((rd t6.2.1 0).Value) == ([98, 34, 99] : Str)))) (p := (t6.2.2 == 0)) (q := false) rfl rfl (fun hp24 => (cT (t_beq hp24))) (fun hp24 => rfl)) (pickAnd ((((((((t1.1 == ([67, 111, 110, 116, 101, 110, 116, 45, 73, 68, 58, 32, 60, 97, 64, 98, 62, 13, 10, 13, 10] : Str)) && (t1.2 == 0)) && ((t4.1.length : Int) == 1)) && (t4.2.1 == ([120] : Str))) && (t4.2.2 == 0)) && (t6.1 == ([116, 101, 120, 116, 47, 120, 109, 108] : Str))) && ((t6.2.1.length : Int) == 1)) && (((rd t6.2.1 0).Value) == ([98, 34, 99] : Str))) (t6.2.2 == 0))) rfl rfl ?_
    refine .cv (VOk.mv (d := (.v (.bool (((((((((t1.1 == ([67, 111, 110, 116, 101, 110, 116, 45, 73, 68, 58, 32, 60, 97, 64, 98, 62, 13, 10, 13, 10] : Str)) && (t1.2 == 0)) && ((t4.1.length : Int) == 1)) && (t4.2.1 == ([120] : Str))) && (t4.2.2 == 0)) && (t6.1 == ([116, 101, 120, 116, 47, 120, 109, 108] : Str))) && ((t6.2.1.length : Int) == 1)) && (((rd t6.2.1 0).Value) == ([98, 34, 99] : Str))) && (t6.2.2 == 0))))) rfl rfl) rfl rfl ?_
    refine OpsOk.consI rfl rfl rfl (.one rfl) rfl (fun hw25 => (GOk.call rfl rfl cl16 rfl (field_Token.ok (ifT h27 hw25)) rfl)) ?_
    refine .cv (VOk.to (VOk.pickI (b := (((((((((t1.1 == ([67, 111, 110, 116, 101, 110, 116, 45, 73, 68, 58, 32, 60, 97, 64, 98, 62, 13, 10, 13, 10] : Str)) && (t1.2 == 0)) && ((t4.1.length : Int) == 1)) && (t4.2.1 == ([120] : Str))) && (t4.2.2 == 0)) && (t6.1 == ([116, 101, 120, 116, 47, 120, 109, 108] : Str))) && ((t6.2.1.length : Int) == 1)) && (((rd t6.2.1 0).Value) == ([98, 34, 99] : Str))) && (t6.2.2 == 0))) (p := t26) (q := false) rfl rfl (fun hp28 => (cT (t_beq hp28))) (fun hp28 => rfl)) (pickAnd (((((((((t1.1 == ([67, 111, 110, 116, 101, 110, 116, 45, 73, 68, 58, 32, 60, 97, 64, 98, 62, 13, 10, 13, 10] : Str)) && (t1.2 == 0)) && ((t4.1.length : Int) == 1)) && (t4.2.1 == ([120] : Str))) && (t4.2.2 == 0)) && (t6.1 == ([116, 101, 120, 116, 47, 120, 109, 108] : Str))) && ((t6.2.1.length : Int) == 1)) && (((rd t6.2.1 0).Value) == ([98, 34, 99] : Str))) && (t6.2.2 == 0)) t26)) rfl rfl ?_
    refine .cv (VOk.mv (d := (.v (.bool ((((((((((t1.1 == ([67, 111, 110, 116, 101, 110, 116, 45, 73, 68, 58, 32, 60, 97, 64, 98, 62, 13, 10, 13, 10] : Str)) && (t1.2 == 0)) && ((t4.1.length : Int) == 1)) && (t4.2.1 == ([120] : Str))) && (t4.2.2 == 0)) && (t6.1 == ([116, 101, 120, 116, 47, 120, 109, 108] : Str))) && ((t6.2.1.length : Int) == 1)) && (((rd t6.2.1 0).Value) == ([98, 34, 99] : Str))) && (t6.2.2 == 0)) && t26)))) rfl rfl) rfl rfl ?_
    refine OpsOk.consI rfl rfl rfl (.one rfl) rfl (fun hw29 => (GOk.call rfl rfl cl16 rfl (field_Token.ok (ifT h31 hw29)) rfl)) ?_
    refine OpsOk.consI rfl rfl rfl (.one rfl) rfl (fun hw29 => (GOk.fr (fr' := [(70, (.v (.bool t30)))]) ⟨DLe.of_eq (cT hw29).symm, trivial⟩ (VOk.g (VOk.not (b := t30) rfl rfl)))) ?_
    refine .cv (VOk.to (VOk.pickI (b := ((((((((((t1.1 == ([67, 111, 110, 116, 101, 110, 116, 45, 73, 68, 58, 32, 60, 97, 64, 98, 62, 13, 10, 13, 10] : Str)) && (t1.2 == 0)) && ((t4.1.length : Int) == 1)) && (t4.2.1 == ([120] : Str))) && (t4.2.2 == 0)) && (t6.1 == ([116, 101, 120, 116, 47, 120, 109, 108] : Str))) && ((t6.2.1.length : Int) == 1)) && (((rd t6.2.1 0).Value) == ([98, 34, 99] : Str))) && (t6.2.2 == 0)) && t26)) (p := (!t30)) (q := false) rfl rfl (fun hp32 => (cT (t_beq hp32))) (fun hp32 => rfl)) (pickAnd ((((((((((t1.1 == ([67, 111, 110, 116, 101, 110, 116, 45, 73, 68, 58, 32, 60, 97, 64, 98, 62, 13, 10, 13, 10] : Str)) && (t1.2 == 0)) && ((t4.1.length : Int) == 1)) && (t4.2.1 == ([120] : Str))) && (t4.2.2 == 0)) && (t6.1 == ([116, 101, 120, 116, 47, 120, 109, 108] : Str))) && ((t6.2.1.length : Int) == 1)) && (((rd t6.2.1 0).Value) == ([98, 34, 99] : Str))) && (t6.2.2 == 0)) && t26) (!t30))) rfl rfl ?_
    refine .cv (VOk.asg (d := (.v (.bool (((((((((((t1.1 == ([67, 111, 110, 116, 101, 110, 116, 45, 73, 68, 58, 32, 60, 97, 64, 98, 62, 13, 10, 13, 10] : Str)) && (t1.2 == 0)) && ((t4.1.length : Int) == 1)) && (t4.2.1 == ([120] : Str))) && (t4.2.2 == 0)) && (t6.1 == ([116, 101, 120, 116, 47, 120, 109, 108] : Str))) && ((t6.2.1.length : Int) == 1)) && (((rd t6.2.1 0).Value) == ([98, 34, 99] : Str))) && (t6.2.2 == 0)) && t26) && (!t30))))) rfl rfl) rfl rfl ?_
    exact .done (.rf rfl rfl)
  refine Ok.ret ?_
  obtain rfl := Option.some.inj H
  exact ⟨.inl rfl, ⟨_, (.cons (.tmp rfl) .nil), rfl⟩, trivial⟩

/-! watchbill/watchbilllaw07.Few: function 9 -/
def watchbilllaw07_Few.l0 (k : Nat) (a0 : List T_api_Field) : Nat → Int → Int → Option Bool
  | 0, _, _ => none
  | m5 + 1, x3_1, x4_2 => (if ((decide (x4_2 < (a0.length : Int))) && (decide (x3_1 < 5000))) = true then (if (0 : Int) ≤ x4_2 ∧ x4_2 < (a0.length : Int) then (if (0 : Int) ≤ x4_2 ∧ x4_2 < (a0.length : Int) then watchbilllaw07_Few.l0 k a0 m5 (IntKind.i64.wrap ((IntKind.i64.wrap (x3_1 + (if 5000 < (((rd a0 x4_2).Name).length : Int) then 5000 else (((rd a0 x4_2).Name).length : Int)))) + (if 5000 < (((rd a0 x4_2).Value).length : Int) then 5000 else (((rd a0 x4_2).Value).length : Int)))) (IntKind.i64.wrap (x4_2 + 1)) else none) else none) else some (decide (x3_1 < 5000)))
def watchbilllaw07_Few (k : Nat) (a0 : List T_api_Field) : Option Bool := watchbilllaw07_Few.l0 k a0 k (if 5000 < (a0.length : Int) then 5000 else (a0.length : Int)) 0
theorem watchbilllaw07_Few.ok {k : Nat} {a0 : List T_api_Field} {r : Bool} (H : watchbilllaw07_Few k a0 = some r) : Vx.Fn Tryd.prog 9 [(L 2 e_api_Field a0)] [] (.v (.bool r)) [] := by
  unfold watchbilllaw07_Few at H
  refine Vx.Fn.of_okR Tryd.func9 rfl (Nat.le_of_ble_eq_true rfl) ?_
  refine Ok.seq ?_
  refine Ok.region (σ' := ⟨[(0, (L 2 e_api_Field a0))], []⟩) ?_ ?_
  · refine .cv (VOk.asg (d := (.v (.bool false))) rfl rfl) rfl rfl ?_
    exact .done (.rf rfl rfl)
  refine Ok.seq ?_
  refine Ok.region (σ' := ⟨[(0, (L 2 e_api_Field a0)), (3, (.v (.int .i64 (if 5000 < (a0.length : Int) then 5000 else (a0.length : Int)))))], []⟩) ?_ ?_
  · refine .cv (VOk.mv (d := (L 2 e_api_Field a0)) rfl rfl) rfl rfl ?_
    refine .cv (VOk.lenL (e := e_api_Field) (xs := a0) rfl Tryd.underlying22 rfl) rfl rfl ?_
    refine .cv (VOk.min2 (a := (a0.length : Int)) (b := 5000) rfl rfl rfl) rfl rfl ?_
    refine .cv (VOk.asg (d := (.v (.int .i64 (if 5000 < (a0.length : Int) then 5000 else (a0.length : Int))))) rfl rfl) rfl rfl ?_
    exact .done (.rf rfl rfl)
  refine Ok.seq ?_
  refine Ok.seq ?_
  refine Ok.region (σ' := ⟨[(0, (L 2 e_api_Field a0)), (3, (.v (.int .i64 (if 5000 < (a0.length : Int) then 5000 else (a0.length : Int))))), (4, (.v (.int .i64 0)))], []⟩) ?_ ?_
  · refine .cv (VOk.asg (d := (.v (.int .i64 0))) rfl rfl) rfl rfl ?_
    exact .done (.rf rfl rfl)
  refine Ok.block ?_
  refine Ok.le (σ' := ⟨[(0, (L 2 e_api_Field a0)), (3, (.v (.int .i64 (if 5000 < (a0.length : Int) then 5000 else (a0.length : Int))))), (4, (.v (.int .i64 0)))], []⟩) (.rf rfl rfl) ?_
  refine Ok.loop (fun m5 σ => ∃ (x3_1 : Int) (x4_2 : Int), σ = ⟨[(0, (L 2 e_api_Field a0)), (3, (.v (.int .i64 x3_1))), (4, (.v (.int .i64 x4_2)))], []⟩ ∧ watchbilllaw07_Few.l0 k a0 m5 x3_1 x4_2 = some r) k ⟨(if 5000 < (a0.length : Int) then 5000 else (a0.length : Int)), 0, rfl, H⟩ ?_
  rintro m5 σ ⟨x3_1, x4_2, rfl, H⟩
  cases m5 with
  | zero => exact absurd H (by simp [watchbilllaw07_Few.l0])
  | succ m5 =>
    unfold watchbilllaw07_Few.l0 at H
    refine Ok.seq ?_
    refine Ok.seq ?_
    refine Ok.region (σ' := ⟨[(0, (L 2 e_api_Field a0)), (3, (.v (.int .i64 x3_1))), (4, (.v (.int .i64 x4_2))), (15, (.v (.bool ((decide (x4_2 < (a0.length : Int))) && (decide (x3_1 < 5000))))))], []⟩) ?_ ?_
    · refine .cv (VOk.mv (d := (.v (.int .i64 x4_2))) rfl rfl) rfl rfl ?_
      refine .cv (VOk.mv (d := (L 2 e_api_Field a0)) rfl rfl) rfl rfl ?_
      refine .cv (VOk.lenL (e := e_api_Field) (xs := a0) rfl Tryd.underlying22 rfl) rfl rfl ?_
      refine .cv (VOk.arith (op := .lss) (k := .i64) (a := x4_2) (b := (a0.length : Int)) rfl rfl rfl rfl) rfl rfl ?_
      refine .cv (VOk.mv (d := (.v (.bool (decide (x4_2 < (a0.length : Int)))))) rfl rfl) rfl rfl ?_
      refine OpsOk.consI rfl rfl rfl (.one rfl) rfl (fun hw6 => (VOk.g (VOk.mv (d := (.v (.int .i64 x3_1))) rfl rfl))) ?_
      refine OpsOk.consI rfl rfl rfl (.one rfl) rfl (fun hw6 => (GOk.fr (fr' := [(13, (.v (.int .i64 x3_1)))]) ⟨DLe.of_eq (cT hw6).symm, trivial⟩ (VOk.g (VOk.arith (op := .lss) (k := .i64) (a := x3_1) (b := 5000) rfl rfl rfl rfl)))) ?_
      refine .cv (VOk.to (VOk.pickI (b := (decide (x4_2 < (a0.length : Int)))) (p := (decide (x3_1 < 5000))) (q := false) rfl rfl (fun hp7 => (cT (t_beq hp7))) (fun hp7 => rfl)) (pickAnd (decide (x4_2 < (a0.length : Int))) (decide (x3_1 < 5000)))) rfl rfl ?_
      exact .done (.rf rfl rfl)
    refine Ok.test (b := ((decide (x4_2 < (a0.length : Int))) && (decide (x3_1 < 5000)))) rfl (fun hb10 => ?_) (fun hb10 => ?_)
    · replace H := ifT H hb10
      refine Ok.skip ?_
      refine Ok.seq ?_
      refine Ok.block ?_
      obtain ⟨c8, H⟩ := assertE H
      obtain ⟨c9, H⟩ := assertE H
      refine Ok.drawE (σ' := ⟨[(0, (L 2 e_api_Field a0)), (3, (.v (.int .i64 (IntKind.i64.wrap ((IntKind.i64.wrap (x3_1 + (if 5000 < (((rd a0 x4_2).Name).length : Int) then 5000 else (((rd a0 x4_2).Name).length : Int)))) + (if 5000 < (((rd a0 x4_2).Value).length : Int) then 5000 else (((rd a0 x4_2).Value).length : Int))))))), (4, (.v (.int .i64 x4_2)))], []⟩) [⟨true, [(3, (.v (.int .i64 x3_1)))], (.v (.int .i64 x3_1))⟩, ⟨true, [(0, (L 2 e_api_Field a0))], (L 2 e_api_Field a0)⟩, ⟨true, [(4, (.v (.int .i64 x4_2)))], (.v (.int .i64 x4_2))⟩, ⟨true, [(19, (L 2 e_api_Field a0)), (20, (.v (.int .i64 x4_2)))], (.fp (e_api_Field (rd a0 x4_2)) 0)⟩, ⟨true, [(21, (.fp (e_api_Field (rd a0 x4_2)) 0))], (.fp (e_api_Field (rd a0 x4_2)) 0)⟩, ⟨true, [(22, (.fp (e_api_Field (rd a0 x4_2)) 0))], (S ((rd a0 x4_2).Name))⟩, ⟨true, [(23, (S ((rd a0 x4_2).Name)))], (.v (.int .i64 (((rd a0 x4_2).Name).length : Int)))⟩, ⟨true, [(24, (.v (.int .i64 (((rd a0 x4_2).Name).length : Int))))], (.v (.int .i64 (if 5000 < (((rd a0 x4_2).Name).length : Int) then 5000 else (((rd a0 x4_2).Name).length : Int))))⟩, ⟨true, [(18, (.v (.int .i64 x3_1))), (25, (.v (.int .i64 (if 5000 < (((rd a0 x4_2).Name).length : Int) then 5000 else (((rd a0 x4_2).Name).length : Int)))))], (.v (.int .i64 (IntKind.i64.wrap (x3_1 + (if 5000 < (((rd a0 x4_2).Name).length : Int) then 5000 else (((rd a0 x4_2).Name).length : Int))))))⟩, ⟨true, [(0, (L 2 e_api_Field a0))], (L 2 e_api_Field a0)⟩, ⟨true, [(4, (.v (.int .i64 x4_2)))], (.v (.int .i64 x4_2))⟩, ⟨true, [(27, (L 2 e_api_Field a0)), (28, (.v (.int .i64 x4_2)))], (.fp (e_api_Field (rd a0 x4_2)) 0)⟩, ⟨true, [(29, (.fp (e_api_Field (rd a0 x4_2)) 0))], (.fp (e_api_Field (rd a0 x4_2)) 1)⟩, ⟨true, [(30, (.fp (e_api_Field (rd a0 x4_2)) 1))], (S ((rd a0 x4_2).Value))⟩, ⟨true, [(31, (S ((rd a0 x4_2).Value)))], (.v (.int .i64 (((rd a0 x4_2).Value).length : Int)))⟩, ⟨true, [(32, (.v (.int .i64 (((rd a0 x4_2).Value).length : Int))))], (.v (.int .i64 (if 5000 < (((rd a0 x4_2).Value).length : Int) then 5000 else (((rd a0 x4_2).Value).length : Int))))⟩, ⟨true, [(26, (.v (.int .i64 (IntKind.i64.wrap (x3_1 + (if 5000 < (((rd a0 x4_2).Name).length : Int) then 5000 else (((rd a0 x4_2).Name).length : Int))))))), (33, (.v (.int .i64 (if 5000 < (((rd a0 x4_2).Value).length : Int) then 5000 else (((rd a0 x4_2).Value).length : Int)))))], (.v (.int .i64 (IntKind.i64.wrap ((IntKind.i64.wrap (x3_1 + (if 5000 < (((rd a0 x4_2).Name).length : Int) then 5000 else (((rd a0 x4_2).Name).length : Int)))) + (if 5000 < (((rd a0 x4_2).Value).length : Int) then 5000 else (((rd a0 x4_2).Value).length : Int))))))⟩, ⟨true, [(34, (.v (.int .i64 (IntKind.i64.wrap ((IntKind.i64.wrap (x3_1 + (if 5000 < (((rd a0 x4_2).Name).length : Int) then 5000 else (((rd a0 x4_2).Name).length : Int)))) + (if 5000 < (((rd a0 x4_2).Value).length : Int) then 5000 else (((rd a0 x4_2).Value).length : Int)))))))], (.v (.int .i64 (IntKind.i64.wrap ((IntKind.i64.wrap (x3_1 + (if 5000 < (((rd a0 x4_2).Name).length : Int) then 5000 else (((rd a0 x4_2).Name).length : Int)))) + (if 5000 < (((rd a0 x4_2).Value).length : Int) then 5000 else (((rd a0 x4_2).Value).length : Int))))))⟩] [[], [], [], [1, 2], [3], [4], [5], [6], [0, 7], [], [], [9, 10], [11], [12], [13], [14], [8, 15], [0, 16]] mixed (by kernel_rfl) ?_ ?_
      · refine TxtE.cons rfl ⟨.same _, trivial⟩ rfl (VOk.g (VOk.mv (d := (.v (.int .i64 x3_1))) rfl rfl)) ?_
        refine TxtE.cons rfl ⟨.same _, trivial⟩ rfl (VOk.g (VOk.mv (d := (L 2 e_api_Field a0)) rfl rfl)) ?_
        refine TxtE.cons rfl ⟨.same _, trivial⟩ rfl (VOk.g (VOk.mv (d := (.v (.int .i64 x4_2))) rfl rfl)) ?_
        refine TxtE.cons rfl ⟨.same _, .same _, trivial⟩ rfl (VOk.g (VOk.indexL (sz := 2) (e := e_api_Field) (xs := a0) (i := x4_2) rfl Tryd.underlying22 sz34 rfl rfl c8)) ?_
        refine TxtE.cons rfl ⟨.same _, trivial⟩ rfl (VOk.g (VOk.to (VOk.fieldFp rfl Tryd.underlying34 rfl sz9 rfl) rfl)) ?_
        refine TxtE.cons rfl ⟨.same _, trivial⟩ rfl (VOk.g (VOk.loadFp (d := (S ((rd a0 x4_2).Name))) rfl Tryd.underlying9 rfl rfl rfl)) ?_
        refine TxtE.cons rfl ⟨.same _, trivial⟩ rfl (VOk.g (VOk.lenStr (s := (rd a0 x4_2).Name) rfl Tryd.underlying9 rfl)) ?_
        refine TxtE.cons rfl ⟨.same _, trivial⟩ rfl (VOk.g (VOk.min2 (a := (((rd a0 x4_2).Name).length : Int)) (b := 5000) rfl rfl rfl)) ?_
        refine TxtE.cons rfl ⟨.same _, .same _, trivial⟩ rfl (VOk.g (VOk.arith (op := .add) (k := .i64) (a := x3_1) (b := (if 5000 < (((rd a0 x4_2).Name).length : Int) then 5000 else (((rd a0 x4_2).Name).length : Int))) rfl rfl rfl rfl)) ?_
        refine TxtE.cons rfl ⟨.same _, trivial⟩ rfl (VOk.g (VOk.mv (d := (L 2 e_api_Field a0)) rfl rfl)) ?_
        refine TxtE.cons rfl ⟨.same _, trivial⟩ rfl (VOk.g (VOk.mv (d := (.v (.int .i64 x4_2))) rfl rfl)) ?_
        refine TxtE.cons rfl ⟨.same _, .same _, trivial⟩ rfl (VOk.g (VOk.indexL (sz := 2) (e := e_api_Field) (xs := a0) (i := x4_2) rfl Tryd.underlying22 sz34 rfl rfl c9)) ?_
        refine TxtE.cons rfl ⟨.same _, trivial⟩ rfl (VOk.g (VOk.to (VOk.fieldFp rfl Tryd.underlying34 rfl sz9 rfl) rfl)) ?_
        refine TxtE.cons rfl ⟨.same _, trivial⟩ rfl (VOk.g (VOk.loadFp (d := (S ((rd a0 x4_2).Value))) rfl Tryd.underlying9 rfl rfl rfl)) ?_
        refine TxtE.cons rfl ⟨.same _, trivial⟩ rfl (VOk.g (VOk.lenStr (s := (rd a0 x4_2).Value) rfl Tryd.underlying9 rfl)) ?_
        refine TxtE.cons rfl ⟨.same _, trivial⟩ rfl (VOk.g (VOk.min2 (a := (((rd a0 x4_2).Value).length : Int)) (b := 5000) rfl rfl rfl)) ?_
        refine TxtE.cons rfl ⟨.same _, .same _, trivial⟩ rfl (VOk.g (VOk.arith (op := .add) (k := .i64) (a := (IntKind.i64.wrap (x3_1 + (if 5000 < (((rd a0 x4_2).Name).length : Int) then 5000 else (((rd a0 x4_2).Name).length : Int))))) (b := (if 5000 < (((rd a0 x4_2).Value).length : Int) then 5000 else (((rd a0 x4_2).Value).length : Int))) rfl rfl rfl rfl)) ?_
        refine TxtE.cons rfl ⟨.same _, trivial⟩ rfl (VOk.g (VOk.asg (d := (.v (.int .i64 (IntKind.i64.wrap ((IntKind.i64.wrap (x3_1 + (if 5000 < (((rd a0 x4_2).Name).length : Int) then 5000 else (((rd a0 x4_2).Name).length : Int)))) + (if 5000 < (((rd a0 x4_2).Value).length : Int) then 5000 else (((rd a0 x4_2).Value).length : Int))))))) rfl rfl)) ?_
        exact .done (.rf rfl rfl)
      refine Ok.region (σ' := ⟨[(0, (L 2 e_api_Field a0)), (3, (.v (.int .i64 (IntKind.i64.wrap ((IntKind.i64.wrap (x3_1 + (if 5000 < (((rd a0 x4_2).Name).length : Int) then 5000 else (((rd a0 x4_2).Name).length : Int)))) + (if 5000 < (((rd a0 x4_2).Value).length : Int) then 5000 else (((rd a0 x4_2).Value).length : Int))))))), (4, (.v (.int .i64 (IntKind.i64.wrap (x4_2 + 1)))))], []⟩) ?_ ?_
      · refine .cv (VOk.mv (d := (.v (.int .i64 x4_2))) rfl rfl) rfl rfl ?_
        refine .cv (VOk.arith (op := .add) (k := .i64) (a := x4_2) (b := 1) rfl rfl rfl rfl) rfl rfl ?_
        refine .cv (VOk.asg (d := (.v (.int .i64 (IntKind.i64.wrap (x4_2 + 1))))) rfl rfl) rfl rfl ?_
        exact .done (.rf rfl rfl)
      exact ⟨m5, Nat.lt_succ_self m5, (IntKind.i64.wrap ((IntKind.i64.wrap (x3_1 + (if 5000 < (((rd a0 x4_2).Name).length : Int) then 5000 else (((rd a0 x4_2).Name).length : Int)))) + (if 5000 < (((rd a0 x4_2).Value).length : Int) then 5000 else (((rd a0 x4_2).Value).length : Int)))), (IntKind.i64.wrap (x4_2 + 1)), rfl, H⟩
    · replace H := ifF H hb10
      refine Ok.exit ?_
      refine Ok.seq ?_
      refine Ok.region (σ' := ⟨[(2, (.v (.bool (decide (x3_1 < 5000)))))], []⟩) ?_ ?_
      · refine .cv (VOk.mv (d := (.v (.int .i64 x3_1))) rfl rfl) rfl rfl ?_
        refine .cv (VOk.arith (op := .lss) (k := .i64) (a := x3_1) (b := 5000) rfl rfl rfl rfl) rfl rfl ?_
        refine .cv (VOk.asg (d := (.v (.bool (decide (x3_1 < 5000))))) rfl rfl) rfl rfl ?_
        exact .done (.rf rfl rfl)
      refine Ok.ret ?_
      obtain rfl := Option.some.inj H
      exact ⟨.inl rfl, ⟨_, (.cons (.tmp rfl) .nil), rfl⟩, trivial⟩

/-! watchbill/watchbillref07.Named: function 31 -/
def watchbillref07_Named.l0 (k : Nat) (a0 : Str) : Nat → Int → Option Bool
  | 0, _ => none
  | m3 + 1, x3_1 => (if (decide (x3_1 < (a0.length : Int))) = true then (if (0 : Int) ≤ x3_1 ∧ x3_1 < (a0.length : Int) then (if (((decide ((bt a0 x3_1) < 33)) == false) = true → (0 : Int) ≤ x3_1 ∧ x3_1 < (a0.length : Int)) then (if ((((decide ((bt a0 x3_1) < 33)) || (decide ((bt a0 x3_1) > 126))) == false) = true → (0 : Int) ≤ x3_1 ∧ x3_1 < (a0.length : Int)) then (if (((decide ((bt a0 x3_1) < 33)) || (decide ((bt a0 x3_1) > 126))) || ((bt a0 x3_1) == 58)) = true then some false else watchbillref07_Named.l0 k a0 m3 (IntKind.i64.wrap (x3_1 + 1))) else none) else none) else none) else some ((decide ((a0.length : Int) ≥ 1)) && (decide ((a0.length : Int) ≤ 64))))
def watchbillref07_Named (k : Nat) (a0 : Str) : Option Bool := watchbillref07_Named.l0 k a0 k 0
theorem watchbillref07_Named.ok {k : Nat} {a0 : Str} {r : Bool} (H : watchbillref07_Named k a0 = some r) : Vx.Fn Tryd.prog 31 [(S a0)] [] (.v (.bool r)) [] := by
  unfold watchbillref07_Named at H
  refine Vx.Fn.of_okR Tryd.func31 rfl (Nat.le_of_ble_eq_true rfl) ?_
  refine Ok.seq ?_
  refine Ok.region (σ' := ⟨[(0, (S a0))], []⟩) ?_ ?_
  · refine .cv (VOk.asg (d := (.v (.bool false))) rfl rfl) rfl rfl ?_
    exact .done (.rf rfl rfl)
  refine Ok.seq ?_
  refine Ok.seq ?_
  refine Ok.region (σ' := ⟨[(0, (S a0)), (3, (.v (.int .i64 0)))], []⟩) ?_ ?_
  · refine .cv (VOk.asg (d := (.v (.int .i64 0))) rfl rfl) rfl rfl ?_
    exact .done (.rf rfl rfl)
  refine Ok.block ?_
  refine Ok.le (σ' := ⟨[(0, (S a0)), (3, (.v (.int .i64 0)))], []⟩) (.rf rfl rfl) ?_
  refine Ok.loop (fun m3 σ => ∃ (x3_1 : Int), σ = ⟨[(0, (S a0)), (3, (.v (.int .i64 x3_1)))], []⟩ ∧ watchbillref07_Named.l0 k a0 m3 x3_1 = some r) k ⟨0, rfl, H⟩ ?_
  rintro m3 σ ⟨x3_1, rfl, H⟩
  cases m3 with
  | zero => exact absurd H (by simp [watchbillref07_Named.l0])
  | succ m3 =>
    unfold watchbillref07_Named.l0 at H
    refine Ok.seq ?_
    refine Ok.seq ?_
    refine Ok.region (σ' := ⟨[(0, (S a0)), (3, (.v (.int .i64 x3_1))), (7, (.v (.bool (decide (x3_1 < (a0.length : Int))))))], []⟩) ?_ ?_
    · refine .cv (VOk.mv (d := (.v (.int .i64 x3_1))) rfl rfl) rfl rfl ?_
      refine .cv (VOk.mv (d := (S a0)) rfl rfl) rfl rfl ?_
      refine .cv (VOk.lenStr (s := a0) rfl Tryd.underlying9 rfl) rfl rfl ?_
      refine .cv (VOk.arith (op := .lss) (k := .i64) (a := x3_1) (b := (a0.length : Int)) rfl rfl rfl rfl) rfl rfl ?_
      exact .done (.rf rfl rfl)
    refine Ok.test (b := (decide (x3_1 < (a0.length : Int)))) rfl (fun hb14 => ?_) (fun hb14 => ?_)
    · replace H := ifT H hb14
      refine Ok.skip ?_
      refine Ok.seq ?_
      refine Ok.block ?_
      refine Ok.seq ?_
      obtain ⟨c4, H⟩ := assertE H
      obtain ⟨c6, H⟩ := assertE H
      obtain ⟨c9, H⟩ := assertE H
      refine Ok.region (σ' := ⟨[(0, (S a0)), (3, (.v (.int .i64 x3_1))), (25, (.v (.bool (((decide ((bt a0 x3_1) < 33)) || (decide ((bt a0 x3_1) > 126))) || ((bt a0 x3_1) == 58)))))], []⟩) ?_ ?_
      · refine .cv (VOk.mv (d := (S a0)) rfl rfl) rfl rfl ?_
        refine .cv (VOk.mv (d := (.v (.int .i64 x3_1))) rfl rfl) rfl rfl ?_
        refine .cv (VOk.indexStr (s := a0) (i := x3_1) rfl Tryd.underlying9 rfl rfl c4) rfl rfl ?_
        refine .cv (VOk.arith (op := .lss) (k := .u8) (a := (bt a0 x3_1)) (b := 33) rfl rfl rfl rfl) rfl rfl ?_
        refine .cv (VOk.mv (d := (.v (.bool (decide ((bt a0 x3_1) < 33))))) rfl rfl) rfl rfl ?_
        refine OpsOk.consI rfl rfl rfl (.one rfl) rfl (fun hw5 => (VOk.g (VOk.mv (d := (S a0)) rfl rfl))) ?_
        refine OpsOk.consI rfl rfl rfl (.one rfl) rfl (fun hw5 => (VOk.g (VOk.mv (d := (.v (.int .i64 x3_1))) rfl rfl))) ?_
        refine OpsOk.consI rfl rfl rfl (.one rfl) rfl (fun hw5 => (GOk.fr (fr' := [(15, (S a0)), (16, (.v (.int .i64 x3_1)))]) ⟨DLe.of_eq (cT hw5).symm, DLe.of_eq (cT hw5).symm, trivial⟩ (VOk.g (VOk.indexStr (s := a0) (i := x3_1) rfl Tryd.underlying9 rfl rfl (c6 hw5))))) ?_
        refine OpsOk.consI rfl rfl rfl (.one rfl) rfl (fun hw5 => (GOk.fr (fr' := [(17, (.v (.int .u8 (bt a0 x3_1))))]) ⟨DLe.of_eq (cT hw5).symm, trivial⟩ (VOk.g (VOk.arith (op := .gtr) (k := .u8) (a := (bt a0 x3_1)) (b := 126) rfl rfl rfl rfl)))) ?_
        refine .cv (VOk.to (VOk.pickI (b := (decide ((bt a0 x3_1) < 33))) (p := true) (q := (decide ((bt a0 x3_1) > 126))) rfl rfl (fun hp7 => rfl) (fun hp7 => (cT (f_beq hp7)))) (pickOr (decide ((bt a0 x3_1) < 33)) (decide ((bt a0 x3_1) > 126)))) rfl rfl ?_
        refine .cv (VOk.mv (d := (.v (.bool ((decide ((bt a0 x3_1) < 33)) || (decide ((bt a0 x3_1) > 126)))))) rfl rfl) rfl rfl ?_
        refine OpsOk.consI rfl rfl rfl (.one rfl) rfl (fun hw8 => (VOk.g (VOk.mv (d := (S a0)) rfl rfl))) ?_
        refine OpsOk.consI rfl rfl rfl (.one rfl) rfl (fun hw8 => (VOk.g (VOk.mv (d := (.v (.int .i64 x3_1))) rfl rfl))) ?_
        refine OpsOk.consI rfl rfl rfl (.one rfl) rfl (fun hw8 => (GOk.fr (fr' := [(21, (S a0)), (22, (.v (.int .i64 x3_1)))]) ⟨DLe.of_eq (cT hw8).symm, DLe.of_eq (cT hw8).symm, trivial⟩ (VOk.g (VOk.indexStr (s := a0) (i := x3_1) rfl Tryd.underlying9 rfl rfl (c9 hw8))))) ?_
        refine OpsOk.consI rfl rfl rfl (.one rfl) rfl (fun hw8 => (GOk.fr (fr' := [(23, (.v (.int .u8 (bt a0 x3_1))))]) ⟨DLe.of_eq (cT hw8).symm, trivial⟩ (VOk.g (VOk.arith (op := .eql) (k := .u8) (a := (bt a0 x3_1)) (b := 58) rfl rfl rfl rfl)))) ?_
        refine .cv (VOk.to (VOk.pickI (b := ((decide ((bt a0 x3_1) < 33)) || (decide ((bt a0 x3_1) > 126)))) (p := true) (q := ((bt a0 x3_1) == 58)) rfl rfl (fun hp10 => rfl) (fun hp10 => (cT (f_beq hp10)))) (pickOr ((decide ((bt a0 x3_1) < 33)) || (decide ((bt a0 x3_1) > 126))) ((bt a0 x3_1) == 58))) rfl rfl ?_
        exact .done (.rf rfl rfl)
      refine Ok.test (b := (((decide ((bt a0 x3_1) < 33)) || (decide ((bt a0 x3_1) > 126))) || ((bt a0 x3_1) == 58))) rfl (fun hb11 => ?_) (fun hb11 => ?_)
      · replace H := ifT H hb11
        refine Ok.seq ?_
        refine Ok.region (σ' := ⟨[(2, (.v (.bool false)))], []⟩) ?_ ?_
        · refine .cv (VOk.asg (d := (.v (.bool false))) rfl rfl) rfl rfl ?_
          exact .done (.rf rfl rfl)
        refine Ok.ret ?_
        obtain rfl := Option.some.inj H
        exact ⟨.inl rfl, ⟨_, (.cons (.tmp rfl) .nil), rfl⟩, trivial⟩
      · replace H := ifF H hb11
        refine Ok.skip ?_
        refine Ok.region (σ' := ⟨[(0, (S a0)), (3, (.v (.int .i64 (IntKind.i64.wrap (x3_1 + 1)))))], []⟩) ?_ ?_
        · refine .cv (VOk.mv (d := (.v (.int .i64 x3_1))) rfl rfl) rfl rfl ?_
          refine .cv (VOk.arith (op := .add) (k := .i64) (a := x3_1) (b := 1) rfl rfl rfl rfl) rfl rfl ?_
          refine .cv (VOk.asg (d := (.v (.int .i64 (IntKind.i64.wrap (x3_1 + 1))))) rfl rfl) rfl rfl ?_
          exact .done (.rf rfl rfl)
        exact ⟨m3, Nat.lt_succ_self m3, (IntKind.i64.wrap (x3_1 + 1)), rfl, H⟩
    · replace H := ifF H hb14
      refine Ok.exit ?_
      refine Ok.seq ?_
      refine Ok.region (σ' := ⟨[(2, (.v (.bool ((decide ((a0.length : Int) ≥ 1)) && (decide ((a0.length : Int) ≤ 64))))))], []⟩) ?_ ?_
      · refine .cv (VOk.mv (d := (S a0)) rfl rfl) rfl rfl ?_
        refine .cv (VOk.lenStr (s := a0) rfl Tryd.underlying9 rfl) rfl rfl ?_
        refine .cv (VOk.arith (op := .geq) (k := .i64) (a := (a0.length : Int)) (b := 1) rfl rfl rfl rfl) rfl rfl ?_
        refine .cv (VOk.mv (d := (.v (.bool (decide ((a0.length : Int) ≥ 1))))) rfl rfl) rfl rfl ?_
        refine OpsOk.consI rfl rfl rfl (.one rfl) rfl (fun hw12 => (VOk.g (VOk.mv (d := (S a0)) rfl rfl))) ?_
        refine OpsOk.consI rfl rfl rfl (.one rfl) rfl (fun hw12 => (GOk.fr (fr' := [(30, (S a0))]) ⟨DLe.of_eq (cT hw12).symm, trivial⟩ (VOk.g (VOk.lenStr (s := a0) rfl Tryd.underlying9 rfl)))) ?_
        refine OpsOk.consI rfl rfl rfl (.one rfl) rfl (fun hw12 => (GOk.fr (fr' := [(31, (.v (.int .i64 (a0.length : Int))))]) ⟨DLe.of_eq (cT hw12).symm, trivial⟩ (VOk.g (VOk.arith (op := .leq) (k := .i64) (a := (a0.length : Int)) (b := 64) rfl rfl rfl rfl)))) ?_
        refine .cv (VOk.to (VOk.pickI (b := (decide ((a0.length : Int) ≥ 1))) (p := (decide ((a0.length : Int) ≤ 64))) (q := false) rfl rfl (fun hp13 => (cT (t_beq hp13))) (fun hp13 => rfl)) (pickAnd (decide ((a0.length : Int) ≥ 1)) (decide ((a0.length : Int) ≤ 64)))) rfl rfl ?_
        refine .cv (VOk.asg (d := (.v (.bool ((decide ((a0.length : Int) ≥ 1)) && (decide ((a0.length : Int) ≤ 64)))))) rfl rfl) rfl rfl ?_
        exact .done (.rf rfl rfl)
      refine Ok.ret ?_
      obtain rfl := Option.some.inj H
      exact ⟨.inl rfl, ⟨_, (.cons (.tmp rfl) .nil), rfl⟩, trivial⟩

/-! watchbill/watchbillref07.Printable: function 32 -/
def watchbillref07_Printable.l0 (k : Nat) (a0 : Str) : Nat → Int → Option Bool
  | 0, _ => none
  | m3 + 1, x3_1 => (if (decide (x3_1 < (a0.length : Int))) = true then (if (0 : Int) ≤ x3_1 ∧ x3_1 < (a0.length : Int) then (if (((decide ((bt a0 x3_1) < 32)) == false) = true → (0 : Int) ≤ x3_1 ∧ x3_1 < (a0.length : Int)) then (if ((((decide ((bt a0 x3_1) < 32)) || (decide ((bt a0 x3_1) > 126))) == false) = true → (0 : Int) ≤ x3_1 ∧ x3_1 < (a0.length : Int)) then (if ((((((decide ((bt a0 x3_1) < 32)) || (decide ((bt a0 x3_1) > 126))) == false) && (((bt a0 x3_1) == 32) == true)) && (((x3_1 == 0) || (x3_1 == (IntKind.i64.wrap ((a0.length : Int) - 1)))) == false)) = true → (0 : Int) ≤ (IntKind.i64.wrap (x3_1 - 1)) ∧ (IntKind.i64.wrap (x3_1 - 1)) < (a0.length : Int)) then (if (((decide ((bt a0 x3_1) < 32)) || (decide ((bt a0 x3_1) > 126))) || (((bt a0 x3_1) == 32) && (((x3_1 == 0) || (x3_1 == (IntKind.i64.wrap ((a0.length : Int) - 1)))) || ((bt a0 (IntKind.i64.wrap (x3_1 - 1))) == 32)))) = true then some false else watchbillref07_Printable.l0 k a0 m3 (IntKind.i64.wrap (x3_1 + 1))) else none) else none) else none) else none) else some true)
def watchbillref07_Printable (k : Nat) (a0 : Str) : Option Bool := watchbillref07_Printable.l0 k a0 k 0
theorem watchbillref07_Printable.ok {k : Nat} {a0 : Str} {r : Bool} (H : watchbillref07_Printable k a0 = some r) : Vx.Fn Tryd.prog 32 [(S a0)] [] (.v (.bool r)) [] := by
  unfold watchbillref07_Printable at H
  refine Vx.Fn.of_okR Tryd.func32 rfl (Nat.le_of_ble_eq_true rfl) ?_
  refine Ok.seq ?_
  refine Ok.region (σ' := ⟨[(0, (S a0))], []⟩) ?_ ?_
  · refine .cv (VOk.asg (d := (.v (.bool false))) rfl rfl) rfl rfl ?_
    exact .done (.rf rfl rfl)
  refine Ok.seq ?_
  refine Ok.seq ?_
  refine Ok.region (σ' := ⟨[(0, (S a0)), (3, (.v (.int .i64 0)))], []⟩) ?_ ?_
  · refine .cv (VOk.asg (d := (.v (.int .i64 0))) rfl rfl) rfl rfl ?_
    exact .done (.rf rfl rfl)
  refine Ok.block ?_
  refine Ok.le (σ' := ⟨[(0, (S a0)), (3, (.v (.int .i64 0)))], []⟩) (.rf rfl rfl) ?_
  refine Ok.loop (fun m3 σ => ∃ (x3_1 : Int), σ = ⟨[(0, (S a0)), (3, (.v (.int .i64 x3_1)))], []⟩ ∧ watchbillref07_Printable.l0 k a0 m3 x3_1 = some r) k ⟨0, rfl, H⟩ ?_
  rintro m3 σ ⟨x3_1, rfl, H⟩
  cases m3 with
  | zero => exact absurd H (by simp [watchbillref07_Printable.l0])
  | succ m3 =>
    unfold watchbillref07_Printable.l0 at H
    refine Ok.seq ?_
    refine Ok.seq ?_
    refine Ok.region (σ' := ⟨[(0, (S a0)), (3, (.v (.int .i64 x3_1))), (7, (.v (.bool (decide (x3_1 < (a0.length : Int))))))], []⟩) ?_ ?_
    · refine .cv (VOk.mv (d := (.v (.int .i64 x3_1))) rfl rfl) rfl rfl ?_
      refine .cv (VOk.mv (d := (S a0)) rfl rfl) rfl rfl ?_
      refine .cv (VOk.lenStr (s := a0) rfl Tryd.underlying9 rfl) rfl rfl ?_
      refine .cv (VOk.arith (op := .lss) (k := .i64) (a := x3_1) (b := (a0.length : Int)) rfl rfl rfl rfl) rfl rfl ?_
      exact .done (.rf rfl rfl)
    refine Ok.test (b := (decide (x3_1 < (a0.length : Int)))) rfl (fun hb19 => ?_) (fun hb19 => ?_)
    · replace H := ifT H hb19
      refine Ok.skip ?_
      refine Ok.seq ?_
      refine Ok.block ?_
      refine Ok.seq ?_
      obtain ⟨c4, H⟩ := assertE H
      obtain ⟨c6, H⟩ := assertE H
      obtain ⟨c9, H⟩ := assertE H
      obtain ⟨c14, H⟩ := assertE H
      refine Ok.region (σ' := ⟨[(0, (S a0)), (3, (.v (.int .i64 x3_1))), (43, (.v (.bool (((decide ((bt a0 x3_1) < 32)) || (decide ((bt a0 x3_1) > 126))) || (((bt a0 x3_1) == 32) && (((x3_1 == 0) || (x3_1 == (IntKind.i64.wrap ((a0.length : Int) - 1)))) || ((bt a0 (IntKind.i64.wrap (x3_1 - 1))) == 32)))))))], []⟩) ?_ ?_
      · refine .cv (VOk.mv (d := (S a0)) rfl rfl) rfl rfl ?_
        refine .cv (VOk.mv (d := (.v (.int .i64 x3_1))) rfl rfl) rfl rfl ?_
        refine .cv (VOk.indexStr (s := a0) (i := x3_1) rfl Tryd.underlying9 rfl rfl c4) rfl rfl ?_
        refine .cv (VOk.arith (op := .lss) (k := .u8) (a := (bt a0 x3_1)) (b := 32) rfl rfl rfl rfl) rfl rfl ?_
        refine .cv (VOk.mv (d := (.v (.bool (decide ((bt a0 x3_1) < 32))))) rfl rfl) rfl rfl ?_
        refine OpsOk.consI rfl rfl rfl (.one rfl) rfl (fun hw5 => (VOk.g (VOk.mv (d := (S a0)) rfl rfl))) ?_
        refine OpsOk.consI rfl rfl rfl (.one rfl) rfl (fun hw5 => (VOk.g (VOk.mv (d := (.v (.int .i64 x3_1))) rfl rfl))) ?_
        refine OpsOk.consI rfl rfl rfl (.one rfl) rfl (fun hw5 => (GOk.fr (fr' := [(15, (S a0)), (16, (.v (.int .i64 x3_1)))]) ⟨DLe.of_eq (cT hw5).symm, DLe.of_eq (cT hw5).symm, trivial⟩ (VOk.g (VOk.indexStr (s := a0) (i := x3_1) rfl Tryd.underlying9 rfl rfl (c6 hw5))))) ?_
        refine OpsOk.consI rfl rfl rfl (.one rfl) rfl (fun hw5 => (GOk.fr (fr' := [(17, (.v (.int .u8 (bt a0 x3_1))))]) ⟨DLe.of_eq (cT hw5).symm, trivial⟩ (VOk.g (VOk.arith (op := .gtr) (k := .u8) (a := (bt a0 x3_1)) (b := 126) rfl rfl rfl rfl)))) ?_
        refine .cv (VOk.to (VOk.pickI (b := (decide ((bt a0 x3_1) < 32))) (p := true) (q := (decide ((bt a0 x3_1) > 126))) rfl rfl (fun hp7 => rfl) (fun hp7 => (cT (f_beq hp7)))) (pickOr (decide ((bt a0 x3_1) < 32)) (decide ((bt a0 x3_1) > 126)))) rfl rfl ?_
        refine .cv (VOk.mv (d := (.v (.bool ((decide ((bt a0 x3_1) < 32)) || (decide ((bt a0 x3_1) > 126)))))) rfl rfl) rfl rfl ?_
        refine OpsOk.consI rfl rfl rfl (.one rfl) rfl (fun hw8 => (VOk.g (VOk.mv (d := (S a0)) rfl rfl))) ?_
        refine OpsOk.consI rfl rfl rfl (.one rfl) rfl (fun hw8 => (VOk.g (VOk.mv (d := (.v (.int .i64 x3_1))) rfl rfl))) ?_
        refine OpsOk.consI rfl rfl rfl (.one rfl) rfl (fun hw8 => (GOk.fr (fr' := [(21, (S a0)), (22, (.v (.int .i64 x3_1)))]) ⟨DLe.of_eq (cT hw8).symm, DLe.of_eq (cT hw8).symm, trivial⟩ (VOk.g (VOk.indexStr (s := a0) (i := x3_1) rfl Tryd.underlying9 rfl rfl (c9 hw8))))) ?_
        refine OpsOk.consI rfl rfl rfl (.one rfl) rfl (fun hw8 => (GOk.fr (fr' := [(23, (.v (.int .u8 (bt a0 x3_1))))]) ⟨DLe.of_eq (cT hw8).symm, trivial⟩ (VOk.g (VOk.arith (op := .eql) (k := .u8) (a := (bt a0 x3_1)) (b := 32) rfl rfl rfl rfl)))) ?_
        refine OpsOk.consI rfl rfl rfl (.one rfl) rfl (fun hw8 => (GOk.fr (fr' := [(24, (.v (.bool ((bt a0 x3_1) == 32))))]) ⟨DLe.of_eq (cT hw8).symm, trivial⟩ (VOk.g (VOk.mv (d := (.v (.bool ((bt a0 x3_1) == 32)))) rfl rfl)))) ?_
        refine OpsOk.consI rfl rfl rfl (.two rfl) rfl (fun hw10 => (VOk.g (VOk.mv (d := (.v (.int .i64 x3_1))) rfl rfl))) ?_
        refine OpsOk.consI rfl rfl rfl (.two rfl) rfl (fun hw10 => (GOk.fr (fr' := [(26, (.v (.int .i64 x3_1)))]) ⟨DLe.of_eq (cT hw10).symm, trivial⟩ (VOk.g (VOk.arith (op := .eql) (k := .i64) (a := x3_1) (b := 0) rfl rfl rfl rfl)))) ?_
        refine OpsOk.consI rfl rfl rfl (.two rfl) rfl (fun hw10 => (GOk.fr (fr' := [(27, (.v (.bool (x3_1 == 0))))]) ⟨DLe.of_eq (cT hw10).symm, trivial⟩ (VOk.g (VOk.mv (d := (.v (.bool (x3_1 == 0)))) rfl rfl)))) ?_
        refine OpsOk.consI rfl rfl rfl (.two rfl) rfl (fun hw11 => (VOk.g (VOk.mv (d := (.v (.int .i64 x3_1))) rfl rfl))) ?_
        refine OpsOk.consI rfl rfl rfl (.two rfl) rfl (fun hw11 => (VOk.g (VOk.mv (d := (S a0)) rfl rfl))) ?_
        refine OpsOk.consI rfl rfl rfl (.two rfl) rfl (fun hw11 => (GOk.fr (fr' := [(30, (S a0))]) ⟨DLe.of_eq (cT hw11).symm, trivial⟩ (VOk.g (VOk.lenStr (s := a0) rfl Tryd.underlying9 rfl)))) ?_
        refine OpsOk.consI rfl rfl rfl (.two rfl) rfl (fun hw11 => (GOk.fr (fr' := [(31, (.v (.int .i64 (a0.length : Int))))]) ⟨DLe.of_eq (cT hw11).symm, trivial⟩ (VOk.g (VOk.arith (op := .sub) (k := .i64) (a := (a0.length : Int)) (b := 1) rfl rfl rfl rfl)))) ?_
        refine OpsOk.consI rfl rfl rfl (.two rfl) rfl (fun hw11 => (GOk.fr (fr' := [(29, (.v (.int .i64 x3_1))), (32, (.v (.int .i64 (IntKind.i64.wrap ((a0.length : Int) - 1)))))]) ⟨DLe.of_eq (cT hw11).symm, DLe.of_eq (cT hw11).symm, trivial⟩ (VOk.g (VOk.arith (op := .eql) (k := .i64) (a := x3_1) (b := (IntKind.i64.wrap ((a0.length : Int) - 1))) rfl rfl rfl rfl)))) ?_
        refine OpsOk.consI rfl rfl rfl (.two rfl) rfl (fun hw10 => (VOk.g (VOk.to (VOk.pickI (b := (x3_1 == 0)) (p := true) (q := (x3_1 == (IntKind.i64.wrap ((a0.length : Int) - 1)))) rfl (cT hw10) (fun hp12 => rfl) (fun hp12 => (cT (and_i hw10 (f_beq hp12))))) (pickOr (x3_1 == 0) (x3_1 == (IntKind.i64.wrap ((a0.length : Int) - 1))))))) ?_
        refine OpsOk.consI rfl rfl rfl (.two rfl) rfl (fun hw10 => (GOk.fr (fr' := [(34, (.v (.bool ((x3_1 == 0) || (x3_1 == (IntKind.i64.wrap ((a0.length : Int) - 1)))))))]) ⟨DLe.of_eq (cT hw10).symm, trivial⟩ (VOk.g (VOk.mv (d := (.v (.bool ((x3_1 == 0) || (x3_1 == (IntKind.i64.wrap ((a0.length : Int) - 1))))))) rfl rfl)))) ?_
        refine OpsOk.consI rfl rfl rfl (.two rfl) rfl (fun hw13 => (VOk.g (VOk.mv (d := (S a0)) rfl rfl))) ?_
        refine OpsOk.consI rfl rfl rfl (.two rfl) rfl (fun hw13 => (VOk.g (VOk.mv (d := (.v (.int .i64 x3_1))) rfl rfl))) ?_
        refine OpsOk.consI rfl rfl rfl (.two rfl) rfl (fun hw13 => (GOk.fr (fr' := [(37, (.v (.int .i64 x3_1)))]) ⟨DLe.of_eq (cT hw13).symm, trivial⟩ (VOk.g (VOk.arith (op := .sub) (k := .i64) (a := x3_1) (b := 1) rfl rfl rfl rfl)))) ?_
        refine OpsOk.consI rfl rfl rfl (.two rfl) rfl (fun hw13 => (GOk.fr (fr' := [(36, (S a0)), (38, (.v (.int .i64 (IntKind.i64.wrap (x3_1 - 1)))))]) ⟨DLe.of_eq (cT hw13).symm, DLe.of_eq (cT hw13).symm, trivial⟩ (VOk.g (VOk.indexStr (s := a0) (i := (IntKind.i64.wrap (x3_1 - 1))) rfl Tryd.underlying9 rfl rfl (c14 hw13))))) ?_
        refine OpsOk.consI rfl rfl rfl (.two rfl) rfl (fun hw13 => (GOk.fr (fr' := [(39, (.v (.int .u8 (bt a0 (IntKind.i64.wrap (x3_1 - 1))))))]) ⟨DLe.of_eq (cT hw13).symm, trivial⟩ (VOk.g (VOk.arith (op := .eql) (k := .u8) (a := (bt a0 (IntKind.i64.wrap (x3_1 - 1)))) (b := 32) rfl rfl rfl rfl)))) ?_
        refine OpsOk.consI rfl rfl rfl (.two rfl) rfl (fun hw10 => (VOk.g (VOk.to (VOk.pickI (b := ((x3_1 == 0) || (x3_1 == (IntKind.i64.wrap ((a0.length : Int) - 1))))) (p := true) (q := ((bt a0 (IntKind.i64.wrap (x3_1 - 1))) == 32)) rfl (cT hw10) (fun hp15 => rfl) (fun hp15 => (cT (and_i hw10 (f_beq hp15))))) (pickOr ((x3_1 == 0) || (x3_1 == (IntKind.i64.wrap ((a0.length : Int) - 1)))) ((bt a0 (IntKind.i64.wrap (x3_1 - 1))) == 32))))) ?_
        refine OpsOk.consI rfl rfl rfl (.one rfl) rfl (fun hw8 => (VOk.g (VOk.to (VOk.pickI (b := ((bt a0 x3_1) == 32)) (p := (((x3_1 == 0) || (x3_1 == (IntKind.i64.wrap ((a0.length : Int) - 1)))) || ((bt a0 (IntKind.i64.wrap (x3_1 - 1))) == 32))) (q := false) rfl (cT hw8) (fun hp16 => (cT (and_i hw8 (t_beq hp16)))) (fun hp16 => rfl)) (pickAnd ((bt a0 x3_1) == 32) (((x3_1 == 0) || (x3_1 == (IntKind.i64.wrap ((a0.length : Int) - 1)))) || ((bt a0 (IntKind.i64.wrap (x3_1 - 1))) == 32)))))) ?_
        refine .cv (VOk.to (VOk.pickI (b := ((decide ((bt a0 x3_1) < 32)) || (decide ((bt a0 x3_1) > 126)))) (p := true) (q := (((bt a0 x3_1) == 32) && (((x3_1 == 0) || (x3_1 == (IntKind.i64.wrap ((a0.length : Int) - 1)))) || ((bt a0 (IntKind.i64.wrap (x3_1 - 1))) == 32)))) rfl rfl (fun hp17 => rfl) (fun hp17 => (cT (f_beq hp17)))) (pickOr ((decide ((bt a0 x3_1) < 32)) || (decide ((bt a0 x3_1) > 126))) (((bt a0 x3_1) == 32) && (((x3_1 == 0) || (x3_1 == (IntKind.i64.wrap ((a0.length : Int) - 1)))) || ((bt a0 (IntKind.i64.wrap (x3_1 - 1))) == 32))))) rfl rfl ?_
        exact .done (.rf rfl rfl)
      refine Ok.test (b := (((decide ((bt a0 x3_1) < 32)) || (decide ((bt a0 x3_1) > 126))) || (((bt a0 x3_1) == 32) && (((x3_1 == 0) || (x3_1 == (IntKind.i64.wrap ((a0.length : Int) - 1)))) || ((bt a0 (IntKind.i64.wrap (x3_1 - 1))) == 32))))) rfl (fun hb18 => ?_) (fun hb18 => ?_)
      · replace H := ifT H hb18
        refine Ok.seq ?_
        refine Ok.region (σ' := ⟨[(2, (.v (.bool false)))], []⟩) ?_ ?_
        · refine .cv (VOk.asg (d := (.v (.bool false))) rfl rfl) rfl rfl ?_
          exact .done (.rf rfl rfl)
        refine Ok.ret ?_
        obtain rfl := Option.some.inj H
        exact ⟨.inl rfl, ⟨_, (.cons (.tmp rfl) .nil), rfl⟩, trivial⟩
      · replace H := ifF H hb18
        refine Ok.skip ?_
        refine Ok.region (σ' := ⟨[(0, (S a0)), (3, (.v (.int .i64 (IntKind.i64.wrap (x3_1 + 1)))))], []⟩) ?_ ?_
        · refine .cv (VOk.mv (d := (.v (.int .i64 x3_1))) rfl rfl) rfl rfl ?_
          refine .cv (VOk.arith (op := .add) (k := .i64) (a := x3_1) (b := 1) rfl rfl rfl rfl) rfl rfl ?_
          refine .cv (VOk.asg (d := (.v (.int .i64 (IntKind.i64.wrap (x3_1 + 1))))) rfl rfl) rfl rfl ?_
          exact .done (.rf rfl rfl)
        exact ⟨m3, Nat.lt_succ_self m3, (IntKind.i64.wrap (x3_1 + 1)), rfl, H⟩
    · replace H := ifF H hb19
      refine Ok.exit ?_
      refine Ok.seq ?_
      refine Ok.region (σ' := ⟨[(2, (.v (.bool true)))], []⟩) ?_ ?_
      · refine .cv (VOk.asg (d := (.v (.bool true))) rfl rfl) rfl rfl ?_
        exact .done (.rf rfl rfl)
      refine Ok.ret ?_
      obtain rfl := Option.some.inj H
      exact ⟨.inl rfl, ⟨_, (.cons (.tmp rfl) .nil), rfl⟩, trivial⟩

/-! watchbill/watchbillref07.print: function 33 -/
def watchbillref07_print.j2 (c0 : Str → Str → Str → Int → Int → Int → Option (Str × Bool)) (x6_4 : Int) (x7_5 : Int) (y1_0_16 : Str) (y1_1_17 : Str) (x8_15 : Int) (x4_25 : Str) (x5_26 : Int) : Option (Str × Bool) := (if x4_25.length + ([32] : Str).length ≤ 9223372036854775807 then (if (0 : Int) ≤ x7_5 ∧ x7_5 ≤ x8_15 ∧ x8_15 ≤ (y1_1_17.length : Int) then (if (x4_25 ++ ([32] : Str)).length + (sl y1_1_17 x7_5 x8_15).length ≤ 9223372036854775807 then (if (decide ((IntKind.i64.wrap ((IntKind.i64.wrap ((IntKind.i64.wrap (x5_26 + 1)) + x8_15)) - x7_5)) > 998)) = true then some (([] : Str), false) else c0 y1_0_16 y1_1_17 ((x4_25 ++ ([32] : Str)) ++ (sl y1_1_17 x7_5 x8_15)) (IntKind.i64.wrap ((IntKind.i64.wrap ((IntKind.i64.wrap (x5_26 + 1)) + x8_15)) - x7_5)) (IntKind.i64.wrap (x6_4 + 1)) (IntKind.i64.wrap (x8_15 + 1))) else none) else none) else none)
def watchbillref07_print.l1 (k : Nat) (c0 : Str → Str → Str → Int → Int → Int → Option (Str × Bool)) (x4_2 : Str) (x5_3 : Int) (x6_4 : Int) (x7_5 : Int) : Nat → Str → Str → Int → Option (Str × Bool)
  | 0, _, _, _ => none
  | m21 + 1, y1_0_16, y1_1_17, x8_15 => (if (((decide (x8_15 < (y1_1_17.length : Int))) == true) = true → (0 : Int) ≤ x8_15 ∧ x8_15 < (y1_1_17.length : Int)) then (if ((decide (x8_15 < (y1_1_17.length : Int))) && ((bt y1_1_17 x8_15) != 32)) = true then watchbillref07_print.l1 k c0 x4_2 x5_3 x6_4 x7_5 m21 y1_0_16 y1_1_17 (IntKind.i64.wrap (x8_15 + 1)) else (if ((decide (x6_4 > 0)) && (decide ((IntKind.i64.wrap ((IntKind.i64.wrap ((IntKind.i64.wrap (x5_3 + 1)) + x8_15)) - x7_5)) > 76))) = true then (if x4_2.length + ([13, 10] : Str).length ≤ 9223372036854775807 then watchbillref07_print.j2 (c0) x6_4 x7_5 y1_0_16 y1_1_17 x8_15 (x4_2 ++ ([13, 10] : Str)) 0 else none) else watchbillref07_print.j2 (c0) x6_4 x7_5 y1_0_16 y1_1_17 x8_15 x4_2 x5_3)) else none)
def watchbillref07_print.l0 (k : Nat) : Nat → Str → Str → Str → Int → Int → Int → Option (Str × Bool)
  | 0, _, _, _, _, _, _ => none
  | m14 + 1, y1_0_6, y1_1_7, x4_2, x5_3, x6_4, x7_5 => (if (decide (x7_5 < (y1_1_7.length : Int))) = true then watchbillref07_print.l1 k (watchbillref07_print.l0 k m14) x4_2 x5_3 x6_4 x7_5 k y1_0_6 y1_1_7 x7_5 else (if x4_2.length + ([13, 10] : Str).length ≤ 9223372036854775807 then some ((x4_2 ++ ([13, 10] : Str)), true) else none))
def watchbillref07_print (k : Nat) (a0 : T_api_Field) : Option (Str × Bool) := (if a0.Name.length + ([58] : Str).length ≤ 9223372036854775807 then watchbillref07_print.l0 k k a0.Name a0.Value (a0.Name ++ ([58] : Str)) ((a0.Name ++ ([58] : Str)).length : Int) 0 0 else none)
theorem watchbillref07_print.ok {k : Nat} {a0 : T_api_Field} {r : Str × Bool} (H : watchbillref07_print k a0 = some r) : Vx.Fn Tryd.prog 33 [(.agg (e_api_Field a0))] [] (.tup [(S r.1), (.v (.bool r.2))]) [] := by
  unfold watchbillref07_print at H
  refine Vx.Fn.of_okR Tryd.func33 rfl (Nat.le_of_ble_eq_true rfl) ?_
  refine Ok.seq ?_
  refine Ok.region (σ' := ⟨[(1, (.bref 1 0))], [(1, (.box .ex [(S a0.Name), (S a0.Value)]))]⟩) ?_ ?_
  · refine OpsOk.cons rfl (OpOk.box 1 (cells := [(S a0.Name), (S a0.Value)]) rfl rfl rfl rfl) ?_
    refine .cv (VOk.asg (d := (S ([] : Str))) rfl rfl) rfl rfl ?_
    refine .cv (VOk.asg (d := (.v (.bool false))) rfl rfl) rfl rfl ?_
    exact .done (.rf rfl rfl)
  refine Ok.seq ?_
  obtain ⟨c1, H⟩ := assertE H
  refine Ok.region (σ' := ⟨[(1, (.bref 1 0)), (4, (S (a0.Name ++ ([58] : Str))))], [(1, (.box .ex [(S a0.Name), (S a0.Value)]))]⟩) ?_ ?_
  · refine .cv (VOk.to (VOk.fieldB rfl Tryd.underlying34 rfl sz9 rfl rfl) rfl) rfl rfl ?_
    refine .cv (VOk.loadB (d := (S a0.Name)) rfl Tryd.underlying9 rfl rfl rfl rfl) rfl rfl ?_
    refine .cv (VOk.cat (a := a0.Name) (b := ([58] : Str)) rfl rfl rfl c1) rfl rfl ?_
    refine .cv (VOk.asg (d := (S (a0.Name ++ ([58] : Str)))) rfl rfl) rfl rfl ?_
    exact .done (.rf rfl rfl)
  refine Ok.seq ?_
  refine Ok.region (σ' := ⟨[(1, (.bref 1 0)), (4, (S (a0.Name ++ ([58] : Str)))), (5, (.v (.int .i64 ((a0.Name ++ ([58] : Str)).length : Int))))], [(1, (.box .ex [(S a0.Name), (S a0.Value)]))]⟩) ?_ ?_
  · refine .cv (VOk.mv (d := (S (a0.Name ++ ([58] : Str)))) rfl rfl) rfl rfl ?_
    refine .cv (VOk.lenStr (s := (a0.Name ++ ([58] : Str))) rfl Tryd.underlying9 rfl) rfl rfl ?_
    refine .cv (VOk.asg (d := (.v (.int .i64 ((a0.Name ++ ([58] : Str)).length : Int)))) rfl rfl) rfl rfl ?_
    exact .done (.rf rfl rfl)
  refine Ok.seq ?_
  refine Ok.region (σ' := ⟨[(1, (.bref 1 0)), (4, (S (a0.Name ++ ([58] : Str)))), (5, (.v (.int .i64 ((a0.Name ++ ([58] : Str)).length : Int)))), (6, (.v (.int .i64 0)))], [(1, (.box .ex [(S a0.Name), (S a0.Value)]))]⟩) ?_ ?_
  · refine .cv (VOk.asg (d := (.v (.int .i64 0))) rfl rfl) rfl rfl ?_
    exact .done (.rf rfl rfl)
  refine Ok.seq ?_
  refine Ok.region (σ' := ⟨[(1, (.bref 1 0)), (4, (S (a0.Name ++ ([58] : Str)))), (5, (.v (.int .i64 ((a0.Name ++ ([58] : Str)).length : Int)))), (6, (.v (.int .i64 0))), (7, (.v (.int .i64 0)))], [(1, (.box .ex [(S a0.Name), (S a0.Value)]))]⟩) ?_ ?_
  · refine .cv (VOk.asg (d := (.v (.int .i64 0))) rfl rfl) rfl rfl ?_
    exact .done (.rf rfl rfl)
  refine Ok.seq ?_
  refine Ok.block ?_
  refine Ok.le (σ' := ⟨[(1, (.bref 1 0)), (4, (S (a0.Name ++ ([58] : Str)))), (5, (.v (.int .i64 ((a0.Name ++ ([58] : Str)).length : Int)))), (6, (.v (.int .i64 0))), (7, (.v (.int .i64 0)))], [(1, (.box .ex [(S a0.Name), (S a0.Value)]))]⟩) (.rf rfl rfl) ?_
  refine Ok.loop (fun m14 σ => ∃ (y1_0_6 : Str) (y1_1_7 : Str) (x4_2 : Str) (x5_3 : Int) (x6_4 : Int) (x7_5 : Int), σ = ⟨[(1, (.bref 1 0)), (4, (S x4_2)), (5, (.v (.int .i64 x5_3))), (6, (.v (.int .i64 x6_4))), (7, (.v (.int .i64 x7_5)))], [(1, (.box .ex [(S y1_0_6), (S y1_1_7)]))]⟩ ∧ watchbillref07_print.l0 k m14 y1_0_6 y1_1_7 x4_2 x5_3 x6_4 x7_5 = some r) k ⟨a0.Name, a0.Value, (a0.Name ++ ([58] : Str)), ((a0.Name ++ ([58] : Str)).length : Int), 0, 0, rfl, H⟩ ?_
  rintro m14 σ ⟨y1_0_6, y1_1_7, x4_2, x5_3, x6_4, x7_5, rfl, H⟩
  cases m14 with
  | zero => exact absurd H (by simp [watchbillref07_print.l0])
  | succ m14 =>
    unfold watchbillref07_print.l0 at H
    refine Ok.seq ?_
    refine Ok.seq ?_
    refine Ok.region (σ' := ⟨[(1, (.bref 1 0)), (4, (S x4_2)), (5, (.v (.int .i64 x5_3))), (6, (.v (.int .i64 x6_4))), (7, (.v (.int .i64 x7_5))), (18, (.v (.bool (decide (x7_5 < (y1_1_7.length : Int))))))], [(1, (.box .ex [(S y1_0_6), (S y1_1_7)]))]⟩) ?_ ?_
    · refine .cv (VOk.mv (d := (.v (.int .i64 x7_5))) rfl rfl) rfl rfl ?_
      refine .cv (VOk.to (VOk.fieldB rfl Tryd.underlying34 rfl sz9 rfl rfl) rfl) rfl rfl ?_
      refine .cv (VOk.loadB (d := (S y1_1_7)) rfl Tryd.underlying9 rfl rfl rfl rfl) rfl rfl ?_
      refine .cv (VOk.lenStr (s := y1_1_7) rfl Tryd.underlying9 rfl) rfl rfl ?_
      refine .cv (VOk.arith (op := .lss) (k := .i64) (a := x7_5) (b := (y1_1_7.length : Int)) rfl rfl rfl rfl) rfl rfl ?_
      exact .done (.rf rfl rfl)
    refine Ok.test (b := (decide (x7_5 < (y1_1_7.length : Int)))) rfl (fun hb37 => ?_) (fun hb37 => ?_)
    · replace H := ifT H hb37
      refine Ok.skip ?_
      refine Ok.block ?_
      refine Ok.seq ?_
      refine Ok.region (σ' := ⟨[(1, (.bref 1 0)), (4, (S x4_2)), (5, (.v (.int .i64 x5_3))), (6, (.v (.int .i64 x6_4))), (7, (.v (.int .i64 x7_5))), (8, (.v (.int .i64 x7_5)))], [(1, (.box .ex [(S y1_0_6), (S y1_1_7)]))]⟩) ?_ ?_
      · refine .cv (VOk.mv (d := (.v (.int .i64 x7_5))) rfl rfl) rfl rfl ?_
        refine .cv (VOk.asg (d := (.v (.int .i64 x7_5))) rfl rfl) rfl rfl ?_
        exact .done (.rf rfl rfl)
      refine Ok.seq ?_
      refine Ok.block ?_
      refine Ok.le (σ' := ⟨[(1, (.bref 1 0)), (4, (S x4_2)), (5, (.v (.int .i64 x5_3))), (6, (.v (.int .i64 x6_4))), (7, (.v (.int .i64 x7_5))), (8, (.v (.int .i64 x7_5)))], [(1, (.box .ex [(S y1_0_6), (S y1_1_7)]))]⟩) (.rf rfl rfl) ?_
      refine Ok.loop (fun m21 σ => ∃ (y1_0_16 : Str) (y1_1_17 : Str) (x8_15 : Int), σ = ⟨[(1, (.bref 1 0)), (4, (S x4_2)), (5, (.v (.int .i64 x5_3))), (6, (.v (.int .i64 x6_4))), (7, (.v (.int .i64 x7_5))), (8, (.v (.int .i64 x8_15)))], [(1, (.box .ex [(S y1_0_16), (S y1_1_17)]))]⟩ ∧ watchbillref07_print.l1 k (watchbillref07_print.l0 k m14) x4_2 x5_3 x6_4 x7_5 m21 y1_0_16 y1_1_17 x8_15 = some r) k ⟨y1_0_6, y1_1_7, x7_5, rfl, H⟩ ?_
      rintro m21 σ ⟨y1_0_16, y1_1_17, x8_15, rfl, H⟩
      cases m21 with
      | zero => exact absurd H (by simp [watchbillref07_print.l1])
      | succ m21 =>
        unfold watchbillref07_print.l1 at H
        refine Ok.seq ?_
        refine Ok.seq ?_
        obtain ⟨c23, H⟩ := assertE H
        refine Ok.region (σ' := ⟨[(1, (.bref 1 0)), (4, (S x4_2)), (5, (.v (.int .i64 x5_3))), (6, (.v (.int .i64 x6_4))), (7, (.v (.int .i64 x7_5))), (8, (.v (.int .i64 x8_15))), (31, (.v (.bool ((decide (x8_15 < (y1_1_17.length : Int))) && ((bt y1_1_17 x8_15) != 32)))))], [(1, (.box .ex [(S y1_0_16), (S y1_1_17)]))]⟩) ?_ ?_
        · refine .cv (VOk.mv (d := (.v (.int .i64 x8_15))) rfl rfl) rfl rfl ?_
          refine .cv (VOk.to (VOk.fieldB rfl Tryd.underlying34 rfl sz9 rfl rfl) rfl) rfl rfl ?_
          refine .cv (VOk.loadB (d := (S y1_1_17)) rfl Tryd.underlying9 rfl rfl rfl rfl) rfl rfl ?_
          refine .cv (VOk.lenStr (s := y1_1_17) rfl Tryd.underlying9 rfl) rfl rfl ?_
          refine .cv (VOk.arith (op := .lss) (k := .i64) (a := x8_15) (b := (y1_1_17.length : Int)) rfl rfl rfl rfl) rfl rfl ?_
          refine .cv (VOk.mv (d := (.v (.bool (decide (x8_15 < (y1_1_17.length : Int)))))) rfl rfl) rfl rfl ?_
          refine OpsOk.consI rfl rfl rfl (.one rfl) rfl (fun hw22 => (VOk.g (VOk.to (VOk.fieldB rfl Tryd.underlying34 rfl sz9 rfl rfl) rfl))) ?_
          refine OpsOk.consI rfl rfl rfl (.one rfl) rfl (fun hw22 => (GOk.fr (fr' := [(26, (.bref 1 1))]) ⟨DLe.of_eq (cT hw22).symm, trivial⟩ (VOk.g (VOk.loadB (d := (S y1_1_17)) rfl Tryd.underlying9 rfl rfl rfl rfl)))) ?_
          refine OpsOk.consI rfl rfl rfl (.one rfl) rfl (fun hw22 => (VOk.g (VOk.mv (d := (.v (.int .i64 x8_15))) rfl rfl))) ?_
          refine OpsOk.consI rfl rfl rfl (.one rfl) rfl (fun hw22 => (GOk.fr (fr' := [(27, (S y1_1_17)), (28, (.v (.int .i64 x8_15)))]) ⟨DLe.of_eq (cT hw22).symm, DLe.of_eq (cT hw22).symm, trivial⟩ (VOk.g (VOk.indexStr (s := y1_1_17) (i := x8_15) rfl Tryd.underlying9 rfl rfl (c23 hw22))))) ?_
          refine OpsOk.consI rfl rfl rfl (.one rfl) rfl (fun hw22 => (GOk.fr (fr' := [(29, (.v (.int .u8 (bt y1_1_17 x8_15))))]) ⟨DLe.of_eq (cT hw22).symm, trivial⟩ (VOk.g (VOk.arith (op := .neq) (k := .u8) (a := (bt y1_1_17 x8_15)) (b := 32) rfl rfl rfl rfl)))) ?_
          refine .cv (VOk.to (VOk.pickI (b := (decide (x8_15 < (y1_1_17.length : Int)))) (p := ((bt y1_1_17 x8_15) != 32)) (q := false) rfl rfl (fun hp24 => (cT (t_beq hp24))) (fun hp24 => rfl)) (pickAnd (decide (x8_15 < (y1_1_17.length : Int))) ((bt y1_1_17 x8_15) != 32))) rfl rfl ?_
          exact .done (.rf rfl rfl)
        refine Ok.test (b := ((decide (x8_15 < (y1_1_17.length : Int))) && ((bt y1_1_17 x8_15) != 32))) rfl (fun hb35 => ?_) (fun hb35 => ?_)
        · replace H := ifT H hb35
          refine Ok.skip ?_
          refine Ok.block ?_
          refine Ok.region (σ' := ⟨[(1, (.bref 1 0)), (4, (S x4_2)), (5, (.v (.int .i64 x5_3))), (6, (.v (.int .i64 x6_4))), (7, (.v (.int .i64 x7_5))), (8, (.v (.int .i64 (IntKind.i64.wrap (x8_15 + 1)))))], [(1, (.box .ex [(S y1_0_16), (S y1_1_17)]))]⟩) ?_ ?_
          · refine .cv (VOk.mv (d := (.v (.int .i64 x8_15))) rfl rfl) rfl rfl ?_
            refine .cv (VOk.arith (op := .add) (k := .i64) (a := x8_15) (b := 1) rfl rfl rfl rfl) rfl rfl ?_
            refine .cv (VOk.asg (d := (.v (.int .i64 (IntKind.i64.wrap (x8_15 + 1))))) rfl rfl) rfl rfl ?_
            exact .done (.rf rfl rfl)
          exact ⟨m21, Nat.lt_succ_self m21, y1_0_16, y1_1_17, (IntKind.i64.wrap (x8_15 + 1)), rfl, H⟩
        · replace H := ifF H hb35
          refine Ok.exit ?_
          refine Ok.meet (fun σ => ∃ (x4_25 : Str) (x5_26 : Int), σ = ⟨[(1, (.bref 1 0)), (4, (S x4_25)), (5, (.v (.int .i64 x5_26))), (6, (.v (.int .i64 x6_4))), (7, (.v (.int .i64 x7_5))), (8, (.v (.int .i64 x8_15)))], [(1, (.box .ex [(S y1_0_16), (S y1_1_17)]))]⟩ ∧ watchbillref07_print.j2 (watchbillref07_print.l0 k m14) x6_4 x7_5 y1_0_16 y1_1_17 x8_15 x4_25 x5_26 = some r) ?_ ?_
          · refine Ok.seq ?_
            refine Ok.region (σ' := ⟨[(1, (.bref 1 0)), (4, (S x4_2)), (5, (.v (.int .i64 x5_3))), (6, (.v (.int .i64 x6_4))), (7, (.v (.int .i64 x7_5))), (8, (.v (.int .i64 x8_15))), (44, (.v (.bool ((decide (x6_4 > 0)) && (decide ((IntKind.i64.wrap ((IntKind.i64.wrap ((IntKind.i64.wrap (x5_3 + 1)) + x8_15)) - x7_5)) > 76))))))], [(1, (.box .ex [(S y1_0_16), (S y1_1_17)]))]⟩) ?_ ?_
            · refine .cv (VOk.mv (d := (.v (.int .i64 x6_4))) rfl rfl) rfl rfl ?_
              refine .cv (VOk.arith (op := .gtr) (k := .i64) (a := x6_4) (b := 0) rfl rfl rfl rfl) rfl rfl ?_
              refine .cv (VOk.mv (d := (.v (.bool (decide (x6_4 > 0))))) rfl rfl) rfl rfl ?_
              refine OpsOk.consI rfl rfl rfl (.one rfl) rfl (fun hw31 => (VOk.g (VOk.mv (d := (.v (.int .i64 x5_3))) rfl rfl))) ?_
              refine OpsOk.consI rfl rfl rfl (.one rfl) rfl (fun hw31 => (GOk.fr (fr' := [(37, (.v (.int .i64 x5_3)))]) ⟨DLe.of_eq (cT hw31).symm, trivial⟩ (VOk.g (VOk.arith (op := .add) (k := .i64) (a := x5_3) (b := 1) rfl rfl rfl rfl)))) ?_
              refine OpsOk.consI rfl rfl rfl (.one rfl) rfl (fun hw31 => (VOk.g (VOk.mv (d := (.v (.int .i64 x8_15))) rfl rfl))) ?_
              refine OpsOk.consI rfl rfl rfl (.one rfl) rfl (fun hw31 => (GOk.fr (fr' := [(38, (.v (.int .i64 (IntKind.i64.wrap (x5_3 + 1))))), (39, (.v (.int .i64 x8_15)))]) ⟨DLe.of_eq (cT hw31).symm, DLe.of_eq (cT hw31).symm, trivial⟩ (VOk.g (VOk.arith (op := .add) (k := .i64) (a := (IntKind.i64.wrap (x5_3 + 1))) (b := x8_15) rfl rfl rfl rfl)))) ?_
              refine OpsOk.consI rfl rfl rfl (.one rfl) rfl (fun hw31 => (VOk.g (VOk.mv (d := (.v (.int .i64 x7_5))) rfl rfl))) ?_
              refine OpsOk.consI rfl rfl rfl (.one rfl) rfl (fun hw31 => (GOk.fr (fr' := [(40, (.v (.int .i64 (IntKind.i64.wrap ((IntKind.i64.wrap (x5_3 + 1)) + x8_15))))), (41, (.v (.int .i64 x7_5)))]) ⟨DLe.of_eq (cT hw31).symm, DLe.of_eq (cT hw31).symm, trivial⟩ (VOk.g (VOk.arith (op := .sub) (k := .i64) (a := (IntKind.i64.wrap ((IntKind.i64.wrap (x5_3 + 1)) + x8_15))) (b := x7_5) rfl rfl rfl rfl)))) ?_
              refine OpsOk.consI rfl rfl rfl (.one rfl) rfl (fun hw31 => (GOk.fr (fr' := [(42, (.v (.int .i64 (IntKind.i64.wrap ((IntKind.i64.wrap ((IntKind.i64.wrap (x5_3 + 1)) + x8_15)) - x7_5)))))]) ⟨DLe.of_eq (cT hw31).symm, trivial⟩ (VOk.g (VOk.arith (op := .gtr) (k := .i64) (a := (IntKind.i64.wrap ((IntKind.i64.wrap ((IntKind.i64.wrap (x5_3 + 1)) + x8_15)) - x7_5))) (b := 76) rfl rfl rfl rfl)))) ?_
              refine .cv (VOk.to (VOk.pickI (b := (decide (x6_4 > 0))) (p := (decide ((IntKind.i64.wrap ((IntKind.i64.wrap ((IntKind.i64.wrap (x5_3 + 1)) + x8_15)) - x7_5)) > 76))) (q := false) rfl rfl (fun hp32 => (cT (t_beq hp32))) (fun hp32 => rfl)) (pickAnd (decide (x6_4 > 0)) (decide ((IntKind.i64.wrap ((IntKind.i64.wrap ((IntKind.i64.wrap (x5_3 + 1)) + x8_15)) - x7_5)) > 76)))) rfl rfl ?_
              exact .done (.rf rfl rfl)
            refine Ok.test (b := ((decide (x6_4 > 0)) && (decide ((IntKind.i64.wrap ((IntKind.i64.wrap ((IntKind.i64.wrap (x5_3 + 1)) + x8_15)) - x7_5)) > 76)))) rfl (fun hb34 => ?_) (fun hb34 => ?_)
            · replace H := ifT H hb34
              refine Ok.seq ?_
              obtain ⟨c33, H⟩ := assertE H
              refine Ok.region (σ' := ⟨[(1, (.bref 1 0)), (4, (S (x4_2 ++ ([13, 10] : Str)))), (6, (.v (.int .i64 x6_4))), (7, (.v (.int .i64 x7_5))), (8, (.v (.int .i64 x8_15)))], [(1, (.box .ex [(S y1_0_16), (S y1_1_17)]))]⟩) ?_ ?_
              · refine .cv (VOk.mv (d := (S x4_2)) rfl rfl) rfl rfl ?_
                refine .cv (VOk.cat (a := x4_2) (b := ([13, 10] : Str)) rfl rfl rfl c33) rfl rfl ?_
                refine .cv (VOk.asg (d := (S (x4_2 ++ ([13, 10] : Str)))) rfl rfl) rfl rfl ?_
                exact .done (.rf rfl rfl)
              refine Ok.region (σ' := ⟨[(1, (.bref 1 0)), (4, (S (x4_2 ++ ([13, 10] : Str)))), (5, (.v (.int .i64 0))), (6, (.v (.int .i64 x6_4))), (7, (.v (.int .i64 x7_5))), (8, (.v (.int .i64 x8_15)))], [(1, (.box .ex [(S y1_0_16), (S y1_1_17)]))]⟩) ?_ ?_
              · refine .cv (VOk.asg (d := (.v (.int .i64 0))) rfl rfl) rfl rfl ?_
                exact .done (.rf rfl rfl)
              exact ⟨(x4_2 ++ ([13, 10] : Str)), 0, rfl, H⟩
            · replace H := ifF H hb34
              refine Ok.le (σ' := ⟨[(1, (.bref 1 0)), (4, (S x4_2)), (5, (.v (.int .i64 x5_3))), (6, (.v (.int .i64 x6_4))), (7, (.v (.int .i64 x7_5))), (8, (.v (.int .i64 x8_15)))], [(1, (.box .ex [(S y1_0_16), (S y1_1_17)]))]⟩) (.rf rfl rfl) ?_
              refine Ok.skip ?_
              exact ⟨x4_2, x5_3, rfl, H⟩
          · rintro σ ⟨x4_25, x5_26, rfl, H⟩
            unfold watchbillref07_print.j2 at H
            refine Ok.seq ?_
            obtain ⟨c27, H⟩ := assertE H
            obtain ⟨c28, H⟩ := assertE H
            obtain ⟨c29, H⟩ := assertE H
            refine Ok.region (σ' := ⟨[(1, (.bref 1 0)), (4, (S ((x4_25 ++ ([32] : Str)) ++ (sl y1_1_17 x7_5 x8_15)))), (5, (.v (.int .i64 x5_26))), (6, (.v (.int .i64 x6_4))), (7, (.v (.int .i64 x7_5))), (8, (.v (.int .i64 x8_15)))], [(1, (.box .ex [(S y1_0_16), (S y1_1_17)]))]⟩) ?_ ?_
            · refine .cv (VOk.mv (d := (S x4_25)) rfl rfl) rfl rfl ?_
              refine .cv (VOk.cat (a := x4_25) (b := ([32] : Str)) rfl rfl rfl c27) rfl rfl ?_
              refine .cv (VOk.to (VOk.fieldB rfl Tryd.underlying34 rfl sz9 rfl rfl) rfl) rfl rfl ?_
              refine .cv (VOk.loadB (d := (S y1_1_17)) rfl Tryd.underlying9 rfl rfl rfl rfl) rfl rfl ?_
              refine .cv (VOk.mv (d := (.v (.int .i64 x7_5))) rfl rfl) rfl rfl ?_
              refine .cv (VOk.mv (d := (.v (.int .i64 x8_15))) rfl rfl) rfl rfl ?_
              refine .cv (VOk.sliceStr (s := y1_1_17) (l := x7_5) (h := x8_15) rfl Tryd.underlying9 rfl rfl rfl c28) rfl rfl ?_
              refine .cv (VOk.cat (a := (x4_25 ++ ([32] : Str))) (b := (sl y1_1_17 x7_5 x8_15)) rfl rfl rfl c29) rfl rfl ?_
              refine .cv (VOk.asg (d := (S ((x4_25 ++ ([32] : Str)) ++ (sl y1_1_17 x7_5 x8_15)))) rfl rfl) rfl rfl ?_
              exact .done (.rf rfl rfl)
            refine Ok.seq ?_
            refine Ok.region (σ' := ⟨[(1, (.bref 1 0)), (4, (S ((x4_25 ++ ([32] : Str)) ++ (sl y1_1_17 x7_5 x8_15)))), (5, (.v (.int .i64 (IntKind.i64.wrap ((IntKind.i64.wrap ((IntKind.i64.wrap (x5_26 + 1)) + x8_15)) - x7_5))))), (6, (.v (.int .i64 x6_4))), (8, (.v (.int .i64 x8_15)))], [(1, (.box .ex [(S y1_0_16), (S y1_1_17)]))]⟩) ?_ ?_
            · refine .cv (VOk.mv (d := (.v (.int .i64 x5_26))) rfl rfl) rfl rfl ?_
              refine .cv (VOk.arith (op := .add) (k := .i64) (a := x5_26) (b := 1) rfl rfl rfl rfl) rfl rfl ?_
              refine .cv (VOk.mv (d := (.v (.int .i64 x8_15))) rfl rfl) rfl rfl ?_
              refine .cv (VOk.arith (op := .add) (k := .i64) (a := (IntKind.i64.wrap (x5_26 + 1))) (b := x8_15) rfl rfl rfl rfl) rfl rfl ?_
              refine .cv (VOk.mv (d := (.v (.int .i64 x7_5))) rfl rfl) rfl rfl ?_
              refine .cv (VOk.arith (op := .sub) (k := .i64) (a := (IntKind.i64.wrap ((IntKind.i64.wrap (x5_26 + 1)) + x8_15))) (b := x7_5) rfl rfl rfl rfl) rfl rfl ?_
              refine .cv (VOk.asg (d := (.v (.int .i64 (IntKind.i64.wrap ((IntKind.i64.wrap ((IntKind.i64.wrap (x5_26 + 1)) + x8_15)) - x7_5))))) rfl rfl) rfl rfl ?_
              exact .done (.rf rfl rfl)
            refine Ok.seq ?_
            refine Ok.region (σ' := ⟨[(1, (.bref 1 0)), (4, (S ((x4_25 ++ ([32] : Str)) ++ (sl y1_1_17 x7_5 x8_15)))), (5, (.v (.int .i64 (IntKind.i64.wrap ((IntKind.i64.wrap ((IntKind.i64.wrap (x5_26 + 1)) + x8_15)) - x7_5))))), (6, (.v (.int .i64 (IntKind.i64.wrap (x6_4 + 1))))), (8, (.v (.int .i64 x8_15)))], [(1, (.box .ex [(S y1_0_16), (S y1_1_17)]))]⟩) ?_ ?_
            · refine .cv (VOk.mv (d := (.v (.int .i64 x6_4))) rfl rfl) rfl rfl ?_
              refine .cv (VOk.arith (op := .add) (k := .i64) (a := x6_4) (b := 1) rfl rfl rfl rfl) rfl rfl ?_
              refine .cv (VOk.asg (d := (.v (.int .i64 (IntKind.i64.wrap (x6_4 + 1))))) rfl rfl) rfl rfl ?_
              exact .done (.rf rfl rfl)
            refine Ok.seq ?_
            refine Ok.seq ?_
            refine Ok.region (σ' := ⟨[(1, (.bref 1 0)), (4, (S ((x4_25 ++ ([32] : Str)) ++ (sl y1_1_17 x7_5 x8_15)))), (5, (.v (.int .i64 (IntKind.i64.wrap ((IntKind.i64.wrap ((IntKind.i64.wrap (x5_26 + 1)) + x8_15)) - x7_5))))), (6, (.v (.int .i64 (IntKind.i64.wrap (x6_4 + 1))))), (8, (.v (.int .i64 x8_15))), (64, (.v (.bool (decide ((IntKind.i64.wrap ((IntKind.i64.wrap ((IntKind.i64.wrap (x5_26 + 1)) + x8_15)) - x7_5)) > 998)))))], [(1, (.box .ex [(S y1_0_16), (S y1_1_17)]))]⟩) ?_ ?_
            · refine .cv (VOk.mv (d := (.v (.int .i64 (IntKind.i64.wrap ((IntKind.i64.wrap ((IntKind.i64.wrap (x5_26 + 1)) + x8_15)) - x7_5))))) rfl rfl) rfl rfl ?_
              refine .cv (VOk.arith (op := .gtr) (k := .i64) (a := (IntKind.i64.wrap ((IntKind.i64.wrap ((IntKind.i64.wrap (x5_26 + 1)) + x8_15)) - x7_5))) (b := 998) rfl rfl rfl rfl) rfl rfl ?_
              exact .done (.rf rfl rfl)
            refine Ok.test (b := (decide ((IntKind.i64.wrap ((IntKind.i64.wrap ((IntKind.i64.wrap (x5_26 + 1)) + x8_15)) - x7_5)) > 998))) rfl (fun hb30 => ?_) (fun hb30 => ?_)
            · replace H := ifT H hb30
              refine Ok.seq ?_
              refine Ok.region (σ' := ⟨[(2, (S ([] : Str))), (3, (.v (.bool false)))], []⟩) ?_ ?_
              · refine .cv (VOk.asg (d := (S ([] : Str))) rfl rfl) rfl rfl ?_
                refine .cv (VOk.asg (d := (.v (.bool false))) rfl rfl) rfl rfl ?_
                exact .done (.rf rfl rfl)
              refine Ok.ret ?_
              obtain rfl := Option.some.inj H
              exact ⟨.inl rfl, ⟨_, (.cons (.tmp rfl) (.cons (.tmp rfl) .nil)), rfl⟩, trivial⟩
            · replace H := ifF H hb30
              refine Ok.skip ?_
              refine Ok.region (σ' := ⟨[(1, (.bref 1 0)), (4, (S ((x4_25 ++ ([32] : Str)) ++ (sl y1_1_17 x7_5 x8_15)))), (5, (.v (.int .i64 (IntKind.i64.wrap ((IntKind.i64.wrap ((IntKind.i64.wrap (x5_26 + 1)) + x8_15)) - x7_5))))), (6, (.v (.int .i64 (IntKind.i64.wrap (x6_4 + 1))))), (7, (.v (.int .i64 (IntKind.i64.wrap (x8_15 + 1)))))], [(1, (.box .ex [(S y1_0_16), (S y1_1_17)]))]⟩) ?_ ?_
              · refine .cv (VOk.mv (d := (.v (.int .i64 x8_15))) rfl rfl) rfl rfl ?_
                refine .cv (VOk.arith (op := .add) (k := .i64) (a := x8_15) (b := 1) rfl rfl rfl rfl) rfl rfl ?_
                refine .cv (VOk.asg (d := (.v (.int .i64 (IntKind.i64.wrap (x8_15 + 1))))) rfl rfl) rfl rfl ?_
                exact .done (.rf rfl rfl)
              exact ⟨m14, Nat.lt_succ_self m14, y1_0_16, y1_1_17, ((x4_25 ++ ([32] : Str)) ++ (sl y1_1_17 x7_5 x8_15)), (IntKind.i64.wrap ((IntKind.i64.wrap ((IntKind.i64.wrap (x5_26 + 1)) + x8_15)) - x7_5)), (IntKind.i64.wrap (x6_4 + 1)), (IntKind.i64.wrap (x8_15 + 1)), rfl, H⟩
    · replace H := ifF H hb37
      refine Ok.exit ?_
      refine Ok.seq ?_
      obtain ⟨c36, H⟩ := assertE H
      refine Ok.region (σ' := ⟨[(2, (S (x4_2 ++ ([13, 10] : Str)))), (3, (.v (.bool true)))], []⟩) ?_ ?_
      · refine .cv (VOk.mv (d := (S x4_2)) rfl rfl) rfl rfl ?_
        refine .cv (VOk.cat (a := x4_2) (b := ([13, 10] : Str)) rfl rfl rfl c36) rfl rfl ?_
        refine .cv (VOk.asg (d := (S (x4_2 ++ ([13, 10] : Str)))) rfl rfl) rfl rfl ?_
        refine .cv (VOk.asg (d := (.v (.bool true))) rfl rfl) rfl rfl ?_
        exact .done (.rf rfl rfl)
      refine Ok.ret ?_
      obtain rfl := Option.some.inj H
      exact ⟨.inl rfl, ⟨_, (.cons (.tmp rfl) (.cons (.tmp rfl) .nil)), rfl⟩, trivial⟩

/-! watchbill/watchbillref07.Print: function 13 -/
def watchbillref07_Print.l0 (k : Nat) (a0 : List T_api_Field) : Nat → Str → Int → Option (Str × Int)
  | 0, _, _ => none
  | m5 + 1, x4_1, x5_2 => (if (decide (x5_2 < (a0.length : Int))) = true then (if (0 : Int) ≤ x5_2 ∧ x5_2 < (a0.length : Int) then ((watchbillref07_Named k ((rd a0 x5_2).Name)).bind fun (t7 : Bool) => (if (!t7) = true then some (([] : Str), 12) else (if (0 : Int) ≤ x5_2 ∧ x5_2 < (a0.length : Int) then ((watchbillref07_Printable k ((rd a0 x5_2).Value)).bind fun (t10 : Bool) => (if (!t10) = true then some (([] : Str), 4) else (if (0 : Int) ≤ x5_2 ∧ x5_2 < (a0.length : Int) then ((watchbillref07_print k (rd a0 x5_2)).bind fun (t13 : Str × Bool) => (if (!t13.2) = true then some (([] : Str), 3) else (if x4_1.length + t13.1.length ≤ 9223372036854775807 then watchbillref07_Print.l0 k a0 m5 (x4_1 ++ t13.1) (IntKind.i64.wrap (x5_2 + 1)) else none))) else none))) else none))) else none) else (if x4_1.length + ([13, 10] : Str).length ≤ 9223372036854775807 then some ((x4_1 ++ ([13, 10] : Str)), 0) else none))
def watchbillref07_Print (k : Nat) (a0 : List T_api_Field) : Option (Str × Int) := (if (decide ((a0.length : Int) > 8)) = true then some (([] : Str), 3) else watchbillref07_Print.l0 k a0 k ([] : Str) 0)
theorem watchbillref07_Print.ok {k : Nat} {a0 : List T_api_Field} {r : Str × Int} (H : watchbillref07_Print k a0 = some r) : Vx.Fn Tryd.prog 13 [(L 2 e_api_Field a0)] [] (.tup [(S r.1), (.v (.int .i64 r.2))]) [] := by
  unfold watchbillref07_Print at H
  refine Vx.Fn.of_okR Tryd.func13 rfl (Nat.le_of_ble_eq_true rfl) ?_
  refine Ok.seq ?_
  refine Ok.region (σ' := ⟨[(0, (L 2 e_api_Field a0))], []⟩) ?_ ?_
  · refine .cv (VOk.asg (d := (S ([] : Str))) rfl rfl) rfl rfl ?_
    refine .cv (VOk.asg (d := (.v (.int .i64 0))) rfl rfl) rfl rfl ?_
    exact .done (.rf rfl rfl)
  refine Ok.seq ?_
  refine Ok.seq ?_
  refine Ok.region (σ' := ⟨[(0, (L 2 e_api_Field a0)), (10, (.v (.bool (decide ((a0.length : Int) > 8)))))], []⟩) ?_ ?_
  · refine .cv (VOk.mv (d := (L 2 e_api_Field a0)) rfl rfl) rfl rfl ?_
    refine .cv (VOk.lenL (e := e_api_Field) (xs := a0) rfl Tryd.underlying22 rfl) rfl rfl ?_
    refine .cv (VOk.arith (op := .gtr) (k := .i64) (a := (a0.length : Int)) (b := 8) rfl rfl rfl rfl) rfl rfl ?_
    exact .done (.rf rfl rfl)
  refine Ok.test (b := (decide ((a0.length : Int) > 8))) rfl (fun hb21 => ?_) (fun hb21 => ?_)
  · replace H := ifT H hb21
    refine Ok.seq ?_
    refine Ok.region (σ' := ⟨[(2, (S ([] : Str))), (3, (.v (.int .i64 3)))], []⟩) ?_ ?_
    · refine .cv (VOk.asg (d := (S ([] : Str))) rfl rfl) rfl rfl ?_
      refine .cv (VOk.asg (d := (.v (.int .i64 3))) rfl rfl) rfl rfl ?_
      exact .done (.rf rfl rfl)
    refine Ok.ret ?_
    obtain rfl := Option.some.inj H
    exact ⟨.inl rfl, ⟨_, (.cons (.tmp rfl) (.cons (.tmp rfl) .nil)), rfl⟩, trivial⟩
  · replace H := ifF H hb21
    refine Ok.skip ?_
    refine Ok.seq ?_
    refine Ok.region (σ' := ⟨[(0, (L 2 e_api_Field a0)), (4, (S ([] : Str)))], []⟩) ?_ ?_
    · refine .cv (VOk.asg (d := (S ([] : Str))) rfl rfl) rfl rfl ?_
      exact .done (.rf rfl rfl)
    refine Ok.seq ?_
    refine Ok.seq ?_
    refine Ok.region (σ' := ⟨[(0, (L 2 e_api_Field a0)), (4, (S ([] : Str))), (5, (.v (.int .i64 0)))], []⟩) ?_ ?_
    · refine .cv (VOk.asg (d := (.v (.int .i64 0))) rfl rfl) rfl rfl ?_
      exact .done (.rf rfl rfl)
    refine Ok.block ?_
    refine Ok.le (σ' := ⟨[(0, (L 2 e_api_Field a0)), (4, (S ([] : Str))), (5, (.v (.int .i64 0)))], []⟩) (.rf rfl rfl) ?_
    refine Ok.loop (fun m5 σ => ∃ (x4_1 : Str) (x5_2 : Int), σ = ⟨[(0, (L 2 e_api_Field a0)), (4, (S x4_1)), (5, (.v (.int .i64 x5_2)))], []⟩ ∧ watchbillref07_Print.l0 k a0 m5 x4_1 x5_2 = some r) k ⟨([] : Str), 0, rfl, H⟩ ?_
    rintro m5 σ ⟨x4_1, x5_2, rfl, H⟩
    cases m5 with
    | zero => exact absurd H (by simp [watchbillref07_Print.l0])
    | succ m5 =>
      unfold watchbillref07_Print.l0 at H
      refine Ok.seq ?_
      refine Ok.seq ?_
      refine Ok.region (σ' := ⟨[(0, (L 2 e_api_Field a0)), (4, (S x4_1)), (5, (.v (.int .i64 x5_2))), (14, (.v (.bool (decide (x5_2 < (a0.length : Int))))))], []⟩) ?_ ?_
      · refine .cv (VOk.mv (d := (.v (.int .i64 x5_2))) rfl rfl) rfl rfl ?_
        refine .cv (VOk.mv (d := (L 2 e_api_Field a0)) rfl rfl) rfl rfl ?_
        refine .cv (VOk.lenL (e := e_api_Field) (xs := a0) rfl Tryd.underlying22 rfl) rfl rfl ?_
        refine .cv (VOk.arith (op := .lss) (k := .i64) (a := x5_2) (b := (a0.length : Int)) rfl rfl rfl rfl) rfl rfl ?_
        exact .done (.rf rfl rfl)
      refine Ok.test (b := (decide (x5_2 < (a0.length : Int)))) rfl (fun hb20 => ?_) (fun hb20 => ?_)
      · replace H := ifT H hb20
        refine Ok.skip ?_
        refine Ok.seq ?_
        refine Ok.block ?_
        refine Ok.seq ?_
        refine Ok.seq ?_
        obtain ⟨c6, H⟩ := assertE H
        obtain ⟨t7, h8, H⟩ := bindE H
        refine Ok.region (σ' := ⟨[(0, (L 2 e_api_Field a0)), (4, (S x4_1)), (5, (.v (.int .i64 x5_2))), (23, (.v (.bool (!t7))))], []⟩) ?_ ?_
        · refine .cv (VOk.mv (d := (L 2 e_api_Field a0)) rfl rfl) rfl rfl ?_
          refine .cv (VOk.mv (d := (.v (.int .i64 x5_2))) rfl rfl) rfl rfl ?_
          refine .cv (VOk.indexL (sz := 2) (e := e_api_Field) (xs := a0) (i := x5_2) rfl Tryd.underlying22 sz34 rfl rfl c6) rfl rfl ?_
          refine .cv (VOk.to (VOk.fieldFp rfl Tryd.underlying34 rfl sz9 rfl) rfl) rfl rfl ?_
          refine .cv (VOk.loadFp (d := (S ((rd a0 x5_2).Name))) rfl Tryd.underlying9 rfl rfl rfl) rfl rfl ?_
          refine .cg (GOk.call rfl rfl cl31 rfl (watchbillref07_Named.ok h8) rfl) rfl rfl ?_
          refine .cv (VOk.not (b := t7) rfl rfl) rfl rfl ?_
          exact .done (.rf rfl rfl)
        refine Ok.test (b := (!t7)) rfl (fun hb18 => ?_) (fun hb18 => ?_)
        · replace H := ifT H hb18
          refine Ok.seq ?_
          refine Ok.region (σ' := ⟨[(2, (S ([] : Str))), (3, (.v (.int .i64 12)))], []⟩) ?_ ?_
          · refine .cv (VOk.asg (d := (S ([] : Str))) rfl rfl) rfl rfl ?_
            refine .cv (VOk.asg (d := (.v (.int .i64 12))) rfl rfl) rfl rfl ?_
            exact .done (.rf rfl rfl)
          refine Ok.ret ?_
          obtain rfl := Option.some.inj H
          exact ⟨.inl rfl, ⟨_, (.cons (.tmp rfl) (.cons (.tmp rfl) .nil)), rfl⟩, trivial⟩
        · replace H := ifF H hb18
          refine Ok.skip ?_
          refine Ok.seq ?_
          refine Ok.seq ?_
          obtain ⟨c9, H⟩ := assertE H
          obtain ⟨t10, h11, H⟩ := bindE H
          refine Ok.region (σ' := ⟨[(0, (L 2 e_api_Field a0)), (4, (S x4_1)), (5, (.v (.int .i64 x5_2))), (30, (.v (.bool (!t10))))], []⟩) ?_ ?_
          · refine .cv (VOk.mv (d := (L 2 e_api_Field a0)) rfl rfl) rfl rfl ?_
            refine .cv (VOk.mv (d := (.v (.int .i64 x5_2))) rfl rfl) rfl rfl ?_
            refine .cv (VOk.indexL (sz := 2) (e := e_api_Field) (xs := a0) (i := x5_2) rfl Tryd.underlying22 sz34 rfl rfl c9) rfl rfl ?_
            refine .cv (VOk.to (VOk.fieldFp rfl Tryd.underlying34 rfl sz9 rfl) rfl) rfl rfl ?_
            refine .cv (VOk.loadFp (d := (S ((rd a0 x5_2).Value))) rfl Tryd.underlying9 rfl rfl rfl) rfl rfl ?_
            refine .cg (GOk.call rfl rfl cl32 rfl (watchbillref07_Printable.ok h11) rfl) rfl rfl ?_
            refine .cv (VOk.not (b := t10) rfl rfl) rfl rfl ?_
            exact .done (.rf rfl rfl)
          refine Ok.test (b := (!t10)) rfl (fun hb17 => ?_) (fun hb17 => ?_)
          · replace H := ifT H hb17
            refine Ok.seq ?_
            refine Ok.region (σ' := ⟨[(2, (S ([] : Str))), (3, (.v (.int .i64 4)))], []⟩) ?_ ?_
            · refine .cv (VOk.asg (d := (S ([] : Str))) rfl rfl) rfl rfl ?_
              refine .cv (VOk.asg (d := (.v (.int .i64 4))) rfl rfl) rfl rfl ?_
              exact .done (.rf rfl rfl)
            refine Ok.ret ?_
            obtain rfl := Option.some.inj H
            exact ⟨.inl rfl, ⟨_, (.cons (.tmp rfl) (.cons (.tmp rfl) .nil)), rfl⟩, trivial⟩
          · replace H := ifF H hb17
            refine Ok.skip ?_
            refine Ok.seq ?_
            obtain ⟨c12, H⟩ := assertE H
            obtain ⟨t13, h14, H⟩ := bindE H
            refine Ok.region (σ' := ⟨[(0, (L 2 e_api_Field a0)), (4, (S x4_1)), (5, (.v (.int .i64 x5_2))), (6, (S t13.1)), (7, (.v (.bool t13.2)))], []⟩) ?_ ?_
            · refine .cv (VOk.mv (d := (L 2 e_api_Field a0)) rfl rfl) rfl rfl ?_
              refine .cv (VOk.mv (d := (.v (.int .i64 x5_2))) rfl rfl) rfl rfl ?_
              refine .cv (VOk.indexL (sz := 2) (e := e_api_Field) (xs := a0) (i := x5_2) rfl Tryd.underlying22 sz34 rfl rfl c12) rfl rfl ?_
              refine .cv (VOk.to (d' := (.agg (e_api_Field (rd a0 x5_2)))) (.loadFpAgg rfl Tryd.underlying34 rfl sz34 rfl rfl) rfl) rfl rfl ?_
              refine .cg (GOk.call rfl rfl cl33 rfl (watchbillref07_print.ok h14) rfl) rfl rfl ?_
              refine .cv (VOk.mv (d := (.tup [(S t13.1), (.v (.bool t13.2))])) rfl rfl) rfl rfl ?_
              refine .cv (VOk.extract (d := (S t13.1)) rfl rfl rfl) rfl rfl ?_
              refine .cv (VOk.extract (d := (.v (.bool t13.2))) rfl rfl rfl) rfl rfl ?_
              refine .cv (VOk.asg (d := (S t13.1)) rfl rfl) rfl rfl ?_
              refine .cv (VOk.asg (d := (.v (.bool t13.2))) rfl rfl) rfl rfl ?_
              exact .done (.rf rfl rfl)
            refine Ok.seq ?_
            refine Ok.seq ?_
            refine Ok.region (σ' := ⟨[(0, (L 2 e_api_Field a0)), (4, (S x4_1)), (5, (.v (.int .i64 x5_2))), (6, (S t13.1)), (40, (.v (.bool (!t13.2))))], []⟩) ?_ ?_
            · refine .cv (VOk.mv (d := (.v (.bool t13.2))) rfl rfl) rfl rfl ?_
              refine .cv (VOk.not (b := t13.2) rfl rfl) rfl rfl ?_
              exact .done (.rf rfl rfl)
            refine Ok.test (b := (!t13.2)) rfl (fun hb16 => ?_) (fun hb16 => ?_)
            · replace H := ifT H hb16
              refine Ok.seq ?_
              refine Ok.region (σ' := ⟨[(2, (S ([] : Str))), (3, (.v (.int .i64 3)))], []⟩) ?_ ?_
              · refine .cv (VOk.asg (d := (S ([] : Str))) rfl rfl) rfl rfl ?_
                refine .cv (VOk.asg (d := (.v (.int .i64 3))) rfl rfl) rfl rfl ?_
                exact .done (.rf rfl rfl)
              refine Ok.ret ?_
              obtain rfl := Option.some.inj H
              exact ⟨.inl rfl, ⟨_, (.cons (.tmp rfl) (.cons (.tmp rfl) .nil)), rfl⟩, trivial⟩
            · replace H := ifF H hb16
              refine Ok.skip ?_
              obtain ⟨c15, H⟩ := assertE H
              refine Ok.region (σ' := ⟨[(0, (L 2 e_api_Field a0)), (4, (S (x4_1 ++ t13.1))), (5, (.v (.int .i64 x5_2)))], []⟩) ?_ ?_
              · refine .cv (VOk.mv (d := (S x4_1)) rfl rfl) rfl rfl ?_
                refine .cv (VOk.mv (d := (S t13.1)) rfl rfl) rfl rfl ?_
                refine .cv (VOk.cat (a := x4_1) (b := t13.1) rfl rfl rfl c15) rfl rfl ?_
                refine .cv (VOk.asg (d := (S (x4_1 ++ t13.1))) rfl rfl) rfl rfl ?_
                exact .done (.rf rfl rfl)
              refine Ok.region (σ' := ⟨[(0, (L 2 e_api_Field a0)), (4, (S (x4_1 ++ t13.1))), (5, (.v (.int .i64 (IntKind.i64.wrap (x5_2 + 1)))))], []⟩) ?_ ?_
              · refine .cv (VOk.mv (d := (.v (.int .i64 x5_2))) rfl rfl) rfl rfl ?_
                refine .cv (VOk.arith (op := .add) (k := .i64) (a := x5_2) (b := 1) rfl rfl rfl rfl) rfl rfl ?_
                refine .cv (VOk.asg (d := (.v (.int .i64 (IntKind.i64.wrap (x5_2 + 1))))) rfl rfl) rfl rfl ?_
                exact .done (.rf rfl rfl)
              exact ⟨m5, Nat.lt_succ_self m5, (x4_1 ++ t13.1), (IntKind.i64.wrap (x5_2 + 1)), rfl, H⟩
      · replace H := ifF H hb20
        refine Ok.exit ?_
        refine Ok.seq ?_
        obtain ⟨c19, H⟩ := assertE H
        refine Ok.region (σ' := ⟨[(2, (S (x4_1 ++ ([13, 10] : Str)))), (3, (.v (.int .i64 0)))], []⟩) ?_ ?_
        · refine .cv (VOk.mv (d := (S x4_1)) rfl rfl) rfl rfl ?_
          refine .cv (VOk.cat (a := x4_1) (b := ([13, 10] : Str)) rfl rfl rfl c19) rfl rfl ?_
          refine .cv (VOk.asg (d := (S (x4_1 ++ ([13, 10] : Str)))) rfl rfl) rfl rfl ?_
          refine .cv (VOk.asg (d := (.v (.int .i64 0))) rfl rfl) rfl rfl ?_
          exact .done (.rf rfl rfl)
        refine Ok.ret ?_
        obtain rfl := Option.some.inj H
        exact ⟨.inl rfl, ⟨_, (.cons (.tmp rfl) (.cons (.tmp rfl) .nil)), rfl⟩, trivial⟩

/-! watchbill/field.Get: function 14 -/
def field_Get.l0 (k : Nat) (a0 : List T_api_Field) (a1 : Str) : Nat → Int → Option (Str × Bool)
  | 0, _ => none
  | m3 + 1, x10_1 => (if (decide (x10_1 < (a0.length : Int))) = true then (if (0 : Int) ≤ x10_1 ∧ x10_1 < (a0.length : Int) then ((field_lower k ((rd a0 x10_1).Name)).bind fun (t5 : Str) => ((field_lower k a1).bind fun (t7 : Str) => (if (t5 == t7) = true then some ((rd a0 x10_1).Value, true) else field_Get.l0 k a0 a1 m3 (IntKind.i64.wrap (x10_1 + 1))))) else none) else some (([] : Str), false))
def field_Get (k : Nat) (a0 : List T_api_Field) (a1 : Str) : Option (Str × Bool) := field_Get.l0 k a0 a1 k 0
theorem field_Get.ok {k : Nat} {a0 : List T_api_Field} {a1 : Str} {r : Str × Bool} (H : field_Get k a0 a1 = some r) : Vx.Fn Tryd.prog 14 [(L 2 e_api_Field a0), (S a1)] [] (.tup [(S r.1), (.v (.bool r.2))]) [] := by
  unfold field_Get at H
  refine Vx.Fn.of_okR Tryd.func14 rfl (Nat.le_of_ble_eq_true rfl) ?_
  refine Ok.seq ?_
  refine Ok.region (σ' := ⟨[(0, (L 2 e_api_Field a0)), (1, (S a1))], []⟩) ?_ ?_
  · refine .cv (VOk.asg (d := (S ([] : Str))) rfl rfl) rfl rfl ?_
    refine .cv (VOk.asg (d := (.v (.bool false))) rfl rfl) rfl rfl ?_
    exact .done (.rf rfl rfl)
  refine Ok.seq ?_
  refine Ok.seq ?_
  refine Ok.region (σ' := ⟨[(1, (S a1)), (8, (L 2 e_api_Field a0)), (9, (.v (.int .i64 (a0.length : Int)))), (10, (.v (.int .i64 0)))], []⟩) ?_ ?_
  · refine .cv (VOk.mv (d := (L 2 e_api_Field a0)) rfl rfl) rfl rfl ?_
    refine .cv (VOk.lenL (e := e_api_Field) (xs := a0) rfl Tryd.underlying22 rfl) rfl rfl ?_
    refine .cv (VOk.mv (d := (.v (.int .i64 0))) rfl rfl) rfl rfl ?_
    exact .done (.rf rfl rfl)
  refine Ok.block ?_
  refine Ok.le (σ' := ⟨[(1, (S a1)), (8, (L 2 e_api_Field a0)), (9, (.v (.int .i64 (a0.length : Int)))), (10, (.v (.int .i64 0)))], []⟩) (.rf rfl rfl) ?_
  refine Ok.loop (fun m3 σ => ∃ (x10_1 : Int), σ = ⟨[(1, (S a1)), (8, (L 2 e_api_Field a0)), (9, (.v (.int .i64 (a0.length : Int)))), (10, (.v (.int .i64 x10_1)))], []⟩ ∧ field_Get.l0 k a0 a1 m3 x10_1 = some r) k ⟨0, rfl, H⟩ ?_
  rintro m3 σ ⟨x10_1, rfl, H⟩
  cases m3 with
  | zero => exact absurd H (by simp [field_Get.l0])
  | succ m3 =>
    unfold field_Get.l0 at H
    refine Ok.seq ?_
    refine Ok.region (σ' := ⟨[(1, (S a1)), (8, (L 2 e_api_Field a0)), (9, (.v (.int .i64 (a0.length : Int)))), (10, (.v (.int .i64 x10_1))), (11, (.v (.bool (decide (x10_1 < (a0.length : Int))))))], []⟩) ?_ ?_
    · refine .cv (VOk.arith (op := .lss) (k := .i64) (a := x10_1) (b := (a0.length : Int)) rfl rfl rfl rfl) rfl rfl ?_
      exact .done (.rf rfl rfl)
    refine Ok.seq ?_
    refine Ok.test (b := (decide (x10_1 < (a0.length : Int)))) rfl (fun hb10 => ?_) (fun hb10 => ?_)
    · replace H := ifT H hb10
      refine Ok.skip ?_
      refine Ok.seq ?_
      refine Ok.block ?_
      refine Ok.seq ?_
      obtain ⟨c4, H⟩ := assertE H
      refine Ok.region (σ' := ⟨[(1, (S a1)), (7, (.bref 7 0)), (8, (L 2 e_api_Field a0)), (9, (.v (.int .i64 (a0.length : Int)))), (10, (.v (.int .i64 x10_1)))], [(7, (.box .ex [(S ((rd a0 x10_1).Name)), (S ((rd a0 x10_1).Value))]))]⟩) ?_ ?_
      · refine .cv (VOk.indexL (sz := 2) (e := e_api_Field) (xs := a0) (i := x10_1) rfl Tryd.underlying22 sz34 rfl rfl c4) rfl rfl ?_
        refine .cv (VOk.to (d' := (.agg (e_api_Field (rd a0 x10_1)))) (.loadFpAgg rfl Tryd.underlying34 rfl sz34 rfl rfl) rfl) rfl rfl ?_
        refine OpsOk.cons rfl (OpOk.alloc 7 [none, none] rfl zo34 rfl rfl) ?_
        refine OpsOk.cons rfl (OpOk.to (σ2 := St.put ⟨_, (7, (.box .ex [(S ((rd a0 x10_1).Name)), (S ((rd a0 x10_1).Value))])) :: _⟩ _ .junk) (.storeB rfl sz34 rfl rfl rfl rfl rfl rfl) rfl) ?_
        exact .done (.rf rfl rfl)
      refine Ok.seq ?_
      obtain ⟨t5, h6, H⟩ := bindE H
      obtain ⟨t7, h8, H⟩ := bindE H
      refine Ok.region (σ' := ⟨[(1, (S a1)), (7, (.bref 7 0)), (8, (L 2 e_api_Field a0)), (9, (.v (.int .i64 (a0.length : Int)))), (10, (.v (.int .i64 x10_1))), (19, (.v (.bool (t5 == t7))))], [(7, (.box .ex [(S ((rd a0 x10_1).Name)), (S ((rd a0 x10_1).Value))]))]⟩) ?_ ?_
      · refine .cv (VOk.to (VOk.fieldB rfl Tryd.underlying34 rfl sz9 rfl rfl) rfl) rfl rfl ?_
        refine .cv (VOk.loadB (d := (S ((rd a0 x10_1).Name))) rfl Tryd.underlying9 rfl rfl rfl rfl) rfl rfl ?_
        refine .cg (GOk.call rfl rfl cl34 rfl (field_lower.ok h6) rfl) rfl rfl ?_
        refine .cv (VOk.mv (d := (S a1)) rfl rfl) rfl rfl ?_
        refine .cg (GOk.call rfl rfl cl34 rfl (field_lower.ok h8) rfl) rfl rfl ?_
        refine .cv (VOk.strOp (op := .eql) (a := t5) (b := t7) rfl rfl rfl rfl) rfl rfl ?_
        exact .done (.rf rfl rfl)
      refine Ok.test (b := (t5 == t7)) rfl (fun hb9 => ?_) (fun hb9 => ?_)
      · replace H := ifT H hb9
        refine Ok.seq ?_
        refine Ok.region (σ' := ⟨[(4, (S ((rd a0 x10_1).Value))), (5, (.v (.bool true)))], []⟩) ?_ ?_
        · refine .cv (VOk.to (VOk.fieldB rfl Tryd.underlying34 rfl sz9 rfl rfl) rfl) rfl rfl ?_
          refine .cv (VOk.loadB (d := (S ((rd a0 x10_1).Value))) rfl Tryd.underlying9 rfl rfl rfl rfl) rfl rfl ?_
          refine .cv (VOk.asg (d := (S ((rd a0 x10_1).Value))) rfl rfl) rfl rfl ?_
          refine .cv (VOk.asg (d := (.v (.bool true))) rfl rfl) rfl rfl ?_
          exact .done (.rf rfl rfl)
        refine Ok.ret ?_
        obtain rfl := Option.some.inj H
        exact ⟨.inl rfl, ⟨_, (.cons (.tmp rfl) (.cons (.tmp rfl) .nil)), rfl⟩, trivial⟩
      · replace H := ifF H hb9
        refine Ok.skip ?_
        refine Ok.region (σ' := ⟨[(1, (S a1)), (8, (L 2 e_api_Field a0)), (9, (.v (.int .i64 (a0.length : Int)))), (10, (.v (.int .i64 (IntKind.i64.wrap (x10_1 + 1)))))], []⟩) ?_ ?_
        · refine .cv (VOk.arith (op := .add) (k := .i64) (a := x10_1) (b := 1) rfl rfl rfl rfl) rfl rfl ?_
          refine .cv (VOk.mv (d := (.v (.int .i64 (IntKind.i64.wrap (x10_1 + 1))))) rfl rfl) rfl rfl ?_
          exact .done (.rf rfl rfl)
        exact ⟨m3, Nat.lt_succ_self m3, (IntKind.i64.wrap (x10_1 + 1)), rfl, H⟩
    · replace H := ifF H hb10
      refine Ok.exit ?_
      refine Ok.seq ?_
      refine Ok.region (σ' := ⟨[(4, (S ([] : Str))), (5, (.v (.bool false)))], []⟩) ?_ ?_
      · refine .cv (VOk.asg (d := (S ([] : Str))) rfl rfl) rfl rfl ?_
        refine .cv (VOk.asg (d := (.v (.bool false))) rfl rfl) rfl rfl ?_
        exact .done (.rf rfl rfl)
      refine Ok.ret ?_
      obtain rfl := Option.some.inj H
      exact ⟨.inl rfl, ⟨_, (.cons (.tmp rfl) (.cons (.tmp rfl) .nil)), rfl⟩, trivial⟩

/-! watchbill/watchbillref07.Lower: function 26 -/
def watchbillref07_Lower.j1 (c0 : List Int → Int → Option Str) (a0 : Str) (y3_2 : List Int) (x4_1 : Int) (x5_7 : Int) : Option Str := (if (y3_2.length + ([x5_7] : List Int).length) * 1 ≤ 140737488355328 then c0 (y3_2 ++ ([x5_7] : List Int)) (IntKind.i64.wrap (x4_1 + 1)) else none)
def watchbillref07_Lower.l0 (k : Nat) (a0 : Str) : Nat → List Int → Int → Option Str
  | 0, _, _ => none
  | m5 + 1, y3_2, x4_1 => (if (decide (x4_1 < (a0.length : Int))) = true then (if (0 : Int) ≤ x4_1 ∧ x4_1 < (a0.length : Int) then (if ((decide ((bt a0 x4_1) ≥ 65)) && (decide ((bt a0 x4_1) ≤ 90))) = true then watchbillref07_Lower.j1 (watchbillref07_Lower.l0 k a0 m5) a0 y3_2 x4_1 (IntKind.u8.wrap ((bt a0 x4_1) + 32)) else watchbillref07_Lower.j1 (watchbillref07_Lower.l0 k a0 m5) a0 y3_2 x4_1 (bt a0 x4_1)) else none) else some (strOfBytes y3_2))
def watchbillref07_Lower (k : Nat) (a0 : Str) : Option Str := watchbillref07_Lower.l0 k a0 k ([] : List Int) 0
theorem watchbillref07_Lower.ok {k : Nat} {a0 : Str} {r : Str} (H : watchbillref07_Lower k a0 = some r) : Vx.Fn Tryd.prog 26 [(S a0)] [] (S r) [] := by
  unfold watchbillref07_Lower at H
  refine Vx.Fn.of_okR Tryd.func26 rfl (Nat.le_of_ble_eq_true rfl) ?_
  refine Ok.seq ?_
  refine Ok.region (σ' := ⟨[(0, (S a0))], []⟩) ?_ ?_
  · refine .cv (VOk.asg (d := (S ([] : Str))) rfl rfl) rfl rfl ?_
    exact .done (.rf rfl rfl)
  refine Ok.seq ?_
  refine Ok.region (σ' := ⟨[(0, (S a0)), (3, (.sref 3))], [(3, (.rows true 5 1 (([] : List Int).map (eI .u8))))]⟩) ?_ ?_
  · refine OpsOk.cons rfl (.nilT 3 5 1 (.inl rfl) rfl rfl) ?_
    exact .done (.rf rfl rfl)
  refine Ok.seq ?_
  refine Ok.seq ?_
  refine Ok.region (σ' := ⟨[(0, (S a0)), (3, (.sref 3)), (4, (.v (.int .i64 0)))], [(3, (.rows true 5 1 (([] : List Int).map (eI .u8))))]⟩) ?_ ?_
  · refine .cv (VOk.asg (d := (.v (.int .i64 0))) rfl rfl) rfl rfl ?_
    exact .done (.rf rfl rfl)
  refine Ok.block ?_
  refine Ok.le (σ' := ⟨[(0, (S a0)), (3, (.sref 3)), (4, (.v (.int .i64 0)))], [(3, (.rows true 5 1 (([] : List Int).map (eI .u8))))]⟩) (.rf rfl rfl) ?_
  refine Ok.loop (fun m5 σ => ∃ (y3_2 : List Int) (x4_1 : Int), σ = ⟨[(0, (S a0)), (3, (.sref 3)), (4, (.v (.int .i64 x4_1)))], [(3, (.rows true 5 1 (y3_2.map (eI .u8))))]⟩ ∧ watchbillref07_Lower.l0 k a0 m5 y3_2 x4_1 = some r) k ⟨([] : List Int), 0, rfl, H⟩ ?_
  rintro m5 σ ⟨y3_2, x4_1, rfl, H⟩
  cases m5 with
  | zero => exact absurd H (by simp [watchbillref07_Lower.l0])
  | succ m5 =>
    unfold watchbillref07_Lower.l0 at H
    refine Ok.seq ?_
    refine Ok.seq ?_
    refine Ok.region (σ' := ⟨[(0, (S a0)), (3, (.sref 3)), (4, (.v (.int .i64 x4_1))), (9, (.v (.bool (decide (x4_1 < (a0.length : Int))))))], [(3, (.rows true 5 1 (y3_2.map (eI .u8))))]⟩) ?_ ?_
    · refine .cv (VOk.mv (d := (.v (.int .i64 x4_1))) rfl rfl) rfl rfl ?_
      refine .cv (VOk.mv (d := (S a0)) rfl rfl) rfl rfl ?_
      refine .cv (VOk.lenStr (s := a0) rfl Tryd.underlying9 rfl) rfl rfl ?_
      refine .cv (VOk.arith (op := .lss) (k := .i64) (a := x4_1) (b := (a0.length : Int)) rfl rfl rfl rfl) rfl rfl ?_
      exact .done (.rf rfl rfl)
    refine Ok.test (b := (decide (x4_1 < (a0.length : Int)))) rfl (fun hb12 => ?_) (fun hb12 => ?_)
    · replace H := ifT H hb12
      refine Ok.skip ?_
      refine Ok.seq ?_
      refine Ok.block ?_
      refine Ok.seq ?_
      obtain ⟨c6, H⟩ := assertE H
      refine Ok.region (σ' := ⟨[(0, (S a0)), (3, (.sref 3)), (4, (.v (.int .i64 x4_1))), (5, (.v (.int .u8 (bt a0 x4_1))))], [(3, (.rows true 5 1 (y3_2.map (eI .u8))))]⟩) ?_ ?_
      · refine .cv (VOk.mv (d := (S a0)) rfl rfl) rfl rfl ?_
        refine .cv (VOk.mv (d := (.v (.int .i64 x4_1))) rfl rfl) rfl rfl ?_
        refine .cv (VOk.indexStr (s := a0) (i := x4_1) rfl Tryd.underlying9 rfl rfl c6) rfl rfl ?_
        refine .cv (VOk.asg (d := (.v (.int .u8 (bt a0 x4_1)))) rfl rfl) rfl rfl ?_
        exact .done (.rf rfl rfl)
      refine Ok.meet (fun σ => ∃ (x5_7 : Int), σ = ⟨[(0, (S a0)), (3, (.sref 3)), (4, (.v (.int .i64 x4_1))), (5, (.v (.int .u8 x5_7)))], [(3, (.rows true 5 1 (y3_2.map (eI .u8))))]⟩ ∧ watchbillref07_Lower.j1 (watchbillref07_Lower.l0 k a0 m5) a0 y3_2 x4_1 x5_7 = some r) ?_ ?_
      · refine Ok.seq ?_
        refine Ok.region (σ' := ⟨[(0, (S a0)), (3, (.sref 3)), (4, (.v (.int .i64 x4_1))), (5, (.v (.int .u8 (bt a0 x4_1)))), (20, (.v (.bool ((decide ((bt a0 x4_1) ≥ 65)) && (decide ((bt a0 x4_1) ≤ 90))))))], [(3, (.rows true 5 1 (y3_2.map (eI .u8))))]⟩) ?_ ?_
        · refine .cv (VOk.mv (d := (.v (.int .u8 (bt a0 x4_1)))) rfl rfl) rfl rfl ?_
          refine .cv (VOk.arith (op := .geq) (k := .u8) (a := (bt a0 x4_1)) (b := 65) rfl rfl rfl rfl) rfl rfl ?_
          refine .cv (VOk.mv (d := (.v (.bool (decide ((bt a0 x4_1) ≥ 65))))) rfl rfl) rfl rfl ?_
          refine OpsOk.consI rfl rfl rfl (.one rfl) rfl (fun hw9 => (VOk.g (VOk.mv (d := (.v (.int .u8 (bt a0 x4_1)))) rfl rfl))) ?_
          refine OpsOk.consI rfl rfl rfl (.one rfl) rfl (fun hw9 => (GOk.fr (fr' := [(18, (.v (.int .u8 (bt a0 x4_1))))]) ⟨DLe.of_eq (cT hw9).symm, trivial⟩ (VOk.g (VOk.arith (op := .leq) (k := .u8) (a := (bt a0 x4_1)) (b := 90) rfl rfl rfl rfl)))) ?_
          refine .cv (VOk.to (VOk.pickI (b := (decide ((bt a0 x4_1) ≥ 65))) (p := (decide ((bt a0 x4_1) ≤ 90))) (q := false) rfl rfl (fun hp10 => (cT (t_beq hp10))) (fun hp10 => rfl)) (pickAnd (decide ((bt a0 x4_1) ≥ 65)) (decide ((bt a0 x4_1) ≤ 90)))) rfl rfl ?_
          exact .done (.rf rfl rfl)
        refine Ok.test (b := ((decide ((bt a0 x4_1) ≥ 65)) && (decide ((bt a0 x4_1) ≤ 90)))) rfl (fun hb11 => ?_) (fun hb11 => ?_)
        · replace H := ifT H hb11
          refine Ok.region (σ' := ⟨[(0, (S a0)), (3, (.sref 3)), (4, (.v (.int .i64 x4_1))), (5, (.v (.int .u8 (IntKind.u8.wrap ((bt a0 x4_1) + 32)))))], [(3, (.rows true 5 1 (y3_2.map (eI .u8))))]⟩) ?_ ?_
          · refine .cv (VOk.mv (d := (.v (.int .u8 (bt a0 x4_1)))) rfl rfl) rfl rfl ?_
            refine .cv (VOk.arith (op := .add) (k := .u8) (a := (bt a0 x4_1)) (b := 32) rfl rfl rfl rfl) rfl rfl ?_
            refine .cv (VOk.asg (d := (.v (.int .u8 (IntKind.u8.wrap ((bt a0 x4_1) + 32))))) rfl rfl) rfl rfl ?_
            exact .done (.rf rfl rfl)
          exact ⟨(IntKind.u8.wrap ((bt a0 x4_1) + 32)), rfl, H⟩
        · replace H := ifF H hb11
          refine Ok.le (σ' := ⟨[(0, (S a0)), (3, (.sref 3)), (4, (.v (.int .i64 x4_1))), (5, (.v (.int .u8 (bt a0 x4_1))))], [(3, (.rows true 5 1 (y3_2.map (eI .u8))))]⟩) (.rf rfl rfl) ?_
          refine Ok.skip ?_
          exact ⟨(bt a0 x4_1), rfl, H⟩
      · rintro σ ⟨x5_7, rfl, H⟩
        unfold watchbillref07_Lower.j1 at H
        obtain ⟨c8, H⟩ := assertE H
        refine Ok.region (σ' := ⟨[(0, (S a0)), (3, (.sref 3)), (4, (.v (.int .i64 x4_1)))], [(3, (.rows true 5 1 ((y3_2 ++ ([x5_7] : List Int)).map (eI .u8))))]⟩) ?_ ?_
        · refine .cv (VOk.mv (d := (.sref 3)) rfl rfl) rfl rfl ?_
          refine .cv (VOk.mv (d := (.v (.int .u8 x5_7))) rfl rfl) rfl rfl ?_
          refine .cg (GOk.to (d' := (L 1 (eI .u8) ([x5_7] : List Int))) (GOk.lit rfl Tryd.underlying78 sz5 zs5 rfl rfl rfl rfl) rfl) rfl rfl ?_
          refine OpsOk.cons rfl (OpOk.appendL (e := (eI .u8)) (xs := y3_2) (ys := ([x5_7] : List Int)) rfl Tryd.underlying78 elt5 rfl rfl rfl c8 rfl) ?_
          refine .cv (VOk.asg (d := (.sref 3)) rfl rfl) rfl rfl ?_
          exact .done (.rf rfl rfl)
        refine Ok.region (σ' := ⟨[(0, (S a0)), (3, (.sref 3)), (4, (.v (.int .i64 (IntKind.i64.wrap (x4_1 + 1)))))], [(3, (.rows true 5 1 ((y3_2 ++ ([x5_7] : List Int)).map (eI .u8))))]⟩) ?_ ?_
        · refine .cv (VOk.mv (d := (.v (.int .i64 x4_1))) rfl rfl) rfl rfl ?_
          refine .cv (VOk.arith (op := .add) (k := .i64) (a := x4_1) (b := 1) rfl rfl rfl rfl) rfl rfl ?_
          refine .cv (VOk.asg (d := (.v (.int .i64 (IntKind.i64.wrap (x4_1 + 1))))) rfl rfl) rfl rfl ?_
          exact .done (.rf rfl rfl)
        exact ⟨m5, Nat.lt_succ_self m5, (y3_2 ++ ([x5_7] : List Int)), (IntKind.i64.wrap (x4_1 + 1)), rfl, H⟩
    · replace H := ifF H hb12
      refine Ok.exit ?_
      refine Ok.seq ?_
      refine Ok.region (σ' := ⟨[(2, (S (strOfBytes y3_2)))], []⟩) ?_ ?_
      · refine .cv (VOk.mv (d := (.sref 3)) rfl rfl) rfl rfl ?_
        refine .cv (VOk.bytesStrT (xs := y3_2) rfl Tryd.underlying78 Tryd.underlying5 Tryd.underlying9 rfl rfl) rfl rfl ?_
        refine .cv (VOk.asg (d := (S (strOfBytes y3_2))) rfl rfl) rfl rfl ?_
        exact .done (.rf rfl rfl)
      refine Ok.ret ?_
      obtain rfl := Option.some.inj H
      exact ⟨.inl rfl, ⟨_, (.cons (.tmp rfl) .nil), rfl⟩, trivial⟩

/-! watchbill/watchbillref07.Get: function 15 -/
def watchbillref07_Get.l0 (k : Nat) (a0 : List T_api_Field) (a1 : Str) : Nat → Int → Option (Str × Bool)
  | 0, _ => none
  | m3 + 1, x6_1 => (if (decide (x6_1 < (a0.length : Int))) = true then (if (0 : Int) ≤ x6_1 ∧ x6_1 < (a0.length : Int) then ((watchbillref07_Lower k ((rd a0 x6_1).Name)).bind fun (t5 : Str) => ((watchbillref07_Lower k a1).bind fun (t7 : Str) => (if (t5 == t7) = true then (if (0 : Int) ≤ x6_1 ∧ x6_1 < (a0.length : Int) then some ((rd a0 x6_1).Value, true) else none) else watchbillref07_Get.l0 k a0 a1 m3 (IntKind.i64.wrap (x6_1 + 1))))) else none) else some (([] : Str), false))
def watchbillref07_Get (k : Nat) (a0 : List T_api_Field) (a1 : Str) : Option (Str × Bool) := watchbillref07_Get.l0 k a0 a1 k 0
theorem watchbillref07_Get.ok {k : Nat} {a0 : List T_api_Field} {a1 : Str} {r : Str × Bool} (H : watchbillref07_Get k a0 a1 = some r) : Vx.Fn Tryd.prog 15 [(L 2 e_api_Field a0), (S a1)] [] (.tup [(S r.1), (.v (.bool r.2))]) [] := by
  unfold watchbillref07_Get at H
  refine Vx.Fn.of_okR Tryd.func15 rfl (Nat.le_of_ble_eq_true rfl) ?_
  refine Ok.seq ?_
  refine Ok.region (σ' := ⟨[(0, (L 2 e_api_Field a0)), (1, (S a1))], []⟩) ?_ ?_
  · refine .cv (VOk.asg (d := (S ([] : Str))) rfl rfl) rfl rfl ?_
    refine .cv (VOk.asg (d := (.v (.bool false))) rfl rfl) rfl rfl ?_
    exact .done (.rf rfl rfl)
  refine Ok.seq ?_
  refine Ok.seq ?_
  refine Ok.region (σ' := ⟨[(0, (L 2 e_api_Field a0)), (1, (S a1)), (6, (.v (.int .i64 0)))], []⟩) ?_ ?_
  · refine .cv (VOk.asg (d := (.v (.int .i64 0))) rfl rfl) rfl rfl ?_
    exact .done (.rf rfl rfl)
  refine Ok.block ?_
  refine Ok.le (σ' := ⟨[(0, (L 2 e_api_Field a0)), (1, (S a1)), (6, (.v (.int .i64 0)))], []⟩) (.rf rfl rfl) ?_
  refine Ok.loop (fun m3 σ => ∃ (x6_1 : Int), σ = ⟨[(0, (L 2 e_api_Field a0)), (1, (S a1)), (6, (.v (.int .i64 x6_1)))], []⟩ ∧ watchbillref07_Get.l0 k a0 a1 m3 x6_1 = some r) k ⟨0, rfl, H⟩ ?_
  rintro m3 σ ⟨x6_1, rfl, H⟩
  cases m3 with
  | zero => exact absurd H (by simp [watchbillref07_Get.l0])
  | succ m3 =>
    unfold watchbillref07_Get.l0 at H
    refine Ok.seq ?_
    refine Ok.seq ?_
    refine Ok.region (σ' := ⟨[(0, (L 2 e_api_Field a0)), (1, (S a1)), (6, (.v (.int .i64 x6_1))), (10, (.v (.bool (decide (x6_1 < (a0.length : Int))))))], []⟩) ?_ ?_
    · refine .cv (VOk.mv (d := (.v (.int .i64 x6_1))) rfl rfl) rfl rfl ?_
      refine .cv (VOk.mv (d := (L 2 e_api_Field a0)) rfl rfl) rfl rfl ?_
      refine .cv (VOk.lenL (e := e_api_Field) (xs := a0) rfl Tryd.underlying22 rfl) rfl rfl ?_
      refine .cv (VOk.arith (op := .lss) (k := .i64) (a := x6_1) (b := (a0.length : Int)) rfl rfl rfl rfl) rfl rfl ?_
      exact .done (.rf rfl rfl)
    refine Ok.test (b := (decide (x6_1 < (a0.length : Int)))) rfl (fun hb11 => ?_) (fun hb11 => ?_)
    · replace H := ifT H hb11
      refine Ok.skip ?_
      refine Ok.seq ?_
      refine Ok.block ?_
      refine Ok.seq ?_
      obtain ⟨c4, H⟩ := assertE H
      obtain ⟨t5, h6, H⟩ := bindE H
      obtain ⟨t7, h8, H⟩ := bindE H
      refine Ok.region (σ' := ⟨[(0, (L 2 e_api_Field a0)), (1, (S a1)), (6, (.v (.int .i64 x6_1))), (21, (.v (.bool (t5 == t7))))], []⟩) ?_ ?_
      · refine .cv (VOk.mv (d := (L 2 e_api_Field a0)) rfl rfl) rfl rfl ?_
        refine .cv (VOk.mv (d := (.v (.int .i64 x6_1))) rfl rfl) rfl rfl ?_
        refine .cv (VOk.indexL (sz := 2) (e := e_api_Field) (xs := a0) (i := x6_1) rfl Tryd.underlying22 sz34 rfl rfl c4) rfl rfl ?_
        refine .cv (VOk.to (VOk.fieldFp rfl Tryd.underlying34 rfl sz9 rfl) rfl) rfl rfl ?_
        refine .cv (VOk.loadFp (d := (S ((rd a0 x6_1).Name))) rfl Tryd.underlying9 rfl rfl rfl) rfl rfl ?_
        refine .cg (GOk.call rfl rfl cl26 rfl (watchbillref07_Lower.ok h6) rfl) rfl rfl ?_
        refine .cv (VOk.mv (d := (S a1)) rfl rfl) rfl rfl ?_
        refine .cg (GOk.call rfl rfl cl26 rfl (watchbillref07_Lower.ok h8) rfl) rfl rfl ?_
        refine .cv (VOk.strOp (op := .eql) (a := t5) (b := t7) rfl rfl rfl rfl) rfl rfl ?_
        exact .done (.rf rfl rfl)
      refine Ok.test (b := (t5 == t7)) rfl (fun hb10 => ?_) (fun hb10 => ?_)
      · replace H := ifT H hb10
        refine Ok.seq ?_
        obtain ⟨c9, H⟩ := assertE H
        refine Ok.region (σ' := ⟨[(4, (S ((rd a0 x6_1).Value))), (5, (.v (.bool true)))], []⟩) ?_ ?_
        · refine .cv (VOk.mv (d := (L 2 e_api_Field a0)) rfl rfl) rfl rfl ?_
          refine .cv (VOk.mv (d := (.v (.int .i64 x6_1))) rfl rfl) rfl rfl ?_
          refine .cv (VOk.indexL (sz := 2) (e := e_api_Field) (xs := a0) (i := x6_1) rfl Tryd.underlying22 sz34 rfl rfl c9) rfl rfl ?_
          refine .cv (VOk.to (VOk.fieldFp rfl Tryd.underlying34 rfl sz9 rfl) rfl) rfl rfl ?_
          refine .cv (VOk.loadFp (d := (S ((rd a0 x6_1).Value))) rfl Tryd.underlying9 rfl rfl rfl) rfl rfl ?_
          refine .cv (VOk.asg (d := (S ((rd a0 x6_1).Value))) rfl rfl) rfl rfl ?_
          refine .cv (VOk.asg (d := (.v (.bool true))) rfl rfl) rfl rfl ?_
          exact .done (.rf rfl rfl)
        refine Ok.ret ?_
        obtain rfl := Option.some.inj H
        exact ⟨.inl rfl, ⟨_, (.cons (.tmp rfl) (.cons (.tmp rfl) .nil)), rfl⟩, trivial⟩
      · replace H := ifF H hb10
        refine Ok.skip ?_
        refine Ok.region (σ' := ⟨[(0, (L 2 e_api_Field a0)), (1, (S a1)), (6, (.v (.int .i64 (IntKind.i64.wrap (x6_1 + 1)))))], []⟩) ?_ ?_
        · refine .cv (VOk.mv (d := (.v (.int .i64 x6_1))) rfl rfl) rfl rfl ?_
          refine .cv (VOk.arith (op := .add) (k := .i64) (a := x6_1) (b := 1) rfl rfl rfl rfl) rfl rfl ?_
          refine .cv (VOk.asg (d := (.v (.int .i64 (IntKind.i64.wrap (x6_1 + 1))))) rfl rfl) rfl rfl ?_
          exact .done (.rf rfl rfl)
        exact ⟨m3, Nat.lt_succ_self m3, (IntKind.i64.wrap (x6_1 + 1)), rfl, H⟩
    · replace H := ifF H hb11
      refine Ok.exit ?_
      refine Ok.seq ?_
      refine Ok.region (σ' := ⟨[(4, (S ([] : Str))), (5, (.v (.bool false)))], []⟩) ?_ ?_
      · refine .cv (VOk.asg (d := (S ([] : Str))) rfl rfl) rfl rfl ?_
        refine .cv (VOk.asg (d := (.v (.bool false))) rfl rfl) rfl rfl ?_
        exact .done (.rf rfl rfl)
      refine Ok.ret ?_
      obtain rfl := Option.some.inj H
      exact ⟨.inl rfl, ⟨_, (.cons (.tmp rfl) (.cons (.tmp rfl) .nil)), rfl⟩, trivial⟩

/-! watchbill/watchbillref07.tokenByte: function 39 -/
def watchbillref07_tokenByte.l0 (k : Nat) (a0 : Int) : Nat → Int → Option Bool
  | 0, _ => none
  | m3 + 1, x3_1 => (if (decide (x3_1 < 15)) = true then (if (0 : Int) ≤ x3_1 ∧ x3_1 < (([40, 41, 60, 62, 64, 44, 59, 58, 92, 34, 47, 91, 93, 63, 61] : Str).length : Int) then (if ((bt ([40, 41, 60, 62, 64, 44, 59, 58, 92, 34, 47, 91, 93, 63, 61] : Str) x3_1) == a0) = true then some false else watchbillref07_tokenByte.l0 k a0 m3 (IntKind.i64.wrap (x3_1 + 1))) else none) else some ((decide (a0 ≥ 33)) && (decide (a0 ≤ 126))))
def watchbillref07_tokenByte (k : Nat) (a0 : Int) : Option Bool := watchbillref07_tokenByte.l0 k a0 k 0
theorem watchbillref07_tokenByte.ok {k : Nat} {a0 : Int} {r : Bool} (H : watchbillref07_tokenByte k a0 = some r) : Vx.Fn Tryd.prog 39 [(.v (.int .u8 a0))] [] (.v (.bool r)) [] := by
  unfold watchbillref07_tokenByte at H
  refine Vx.Fn.of_okR Tryd.func39 rfl (Nat.le_of_ble_eq_true rfl) ?_
  refine Ok.seq ?_
  refine Ok.region (σ' := ⟨[(0, (.v (.int .u8 a0)))], []⟩) ?_ ?_
  · refine .cv (VOk.asg (d := (.v (.bool false))) rfl rfl) rfl rfl ?_
    exact .done (.rf rfl rfl)
  refine Ok.seq ?_
  refine Ok.seq ?_
  refine Ok.region (σ' := ⟨[(0, (.v (.int .u8 a0))), (3, (.v (.int .i64 0)))], []⟩) ?_ ?_
  · refine .cv (VOk.asg (d := (.v (.int .i64 0))) rfl rfl) rfl rfl ?_
    exact .done (.rf rfl rfl)
  refine Ok.block ?_
  refine Ok.le (σ' := ⟨[(0, (.v (.int .u8 a0))), (3, (.v (.int .i64 0)))], []⟩) (.rf rfl rfl) ?_
  refine Ok.loop (fun m3 σ => ∃ (x3_1 : Int), σ = ⟨[(0, (.v (.int .u8 a0))), (3, (.v (.int .i64 x3_1)))], []⟩ ∧ watchbillref07_tokenByte.l0 k a0 m3 x3_1 = some r) k ⟨0, rfl, H⟩ ?_
  rintro m3 σ ⟨x3_1, rfl, H⟩
  cases m3 with
  | zero => exact absurd H (by simp [watchbillref07_tokenByte.l0])
  | succ m3 =>
    unfold watchbillref07_tokenByte.l0 at H
    refine Ok.seq ?_
    refine Ok.seq ?_
    refine Ok.region (σ' := ⟨[(0, (.v (.int .u8 a0))), (3, (.v (.int .i64 x3_1))), (5, (.v (.bool (decide (x3_1 < 15)))))], []⟩) ?_ ?_
    · refine .cv (VOk.mv (d := (.v (.int .i64 x3_1))) rfl rfl) rfl rfl ?_
      refine .cv (VOk.arith (op := .lss) (k := .i64) (a := x3_1) (b := 15) rfl rfl rfl rfl) rfl rfl ?_
      exact .done (.rf rfl rfl)
    refine Ok.test (b := (decide (x3_1 < 15))) rfl (fun hb8 => ?_) (fun hb8 => ?_)
    · replace H := ifT H hb8
      refine Ok.skip ?_
      refine Ok.seq ?_
      refine Ok.block ?_
      refine Ok.seq ?_
      obtain ⟨c4, H⟩ := assertE H
      refine Ok.region (σ' := ⟨[(0, (.v (.int .u8 a0))), (3, (.v (.int .i64 x3_1))), (11, (.v (.bool ((bt ([40, 41, 60, 62, 64, 44, 59, 58, 92, 34, 47, 91, 93, 63, 61] : Str) x3_1) == a0))))], []⟩) ?_ ?_
      · refine .cv (VOk.mv (d := (.v (.int .i64 x3_1))) rfl rfl) rfl rfl ?_
        refine .cv (VOk.indexStr (s := ([40, 41, 60, 62, 64, 44, 59, 58, 92, 34, 47, 91, 93, 63, 61] : Str)) (i := x3_1) rfl Tryd.underlying9 rfl rfl c4) rfl rfl ?_
        refine .cv (VOk.mv (d := (.v (.int .u8 a0))) rfl rfl) rfl rfl ?_
        refine .cv (VOk.arith (op := .eql) (k := .u8) (a := (bt ([40, 41, 60, 62, 64, 44, 59, 58, 92, 34, 47, 91, 93, 63, 61] : Str) x3_1)) (b := a0) rfl rfl rfl rfl) rfl rfl ?_
        exact .done (.rf rfl rfl)
      refine Ok.test (b := ((bt ([40, 41, 60, 62, 64, 44, 59, 58, 92, 34, 47, 91, 93, 63, 61] : Str) x3_1) == a0)) rfl (fun hb5 => ?_) (fun hb5 => ?_)
      · replace H := ifT H hb5
        refine Ok.seq ?_
        refine Ok.region (σ' := ⟨[(2, (.v (.bool false)))], []⟩) ?_ ?_
        · refine .cv (VOk.asg (d := (.v (.bool false))) rfl rfl) rfl rfl ?_
          exact .done (.rf rfl rfl)
        refine Ok.ret ?_
        obtain rfl := Option.some.inj H
        exact ⟨.inl rfl, ⟨_, (.cons (.tmp rfl) .nil), rfl⟩, trivial⟩
      · replace H := ifF H hb5
        refine Ok.skip ?_
        refine Ok.region (σ' := ⟨[(0, (.v (.int .u8 a0))), (3, (.v (.int .i64 (IntKind.i64.wrap (x3_1 + 1)))))], []⟩) ?_ ?_
        · refine .cv (VOk.mv (d := (.v (.int .i64 x3_1))) rfl rfl) rfl rfl ?_
          refine .cv (VOk.arith (op := .add) (k := .i64) (a := x3_1) (b := 1) rfl rfl rfl rfl) rfl rfl ?_
          refine .cv (VOk.asg (d := (.v (.int .i64 (IntKind.i64.wrap (x3_1 + 1))))) rfl rfl) rfl rfl ?_
          exact .done (.rf rfl rfl)
        exact ⟨m3, Nat.lt_succ_self m3, (IntKind.i64.wrap (x3_1 + 1)), rfl, H⟩
    · replace H := ifF H hb8
      refine Ok.exit ?_
      refine Ok.seq ?_
      refine Ok.region (σ' := ⟨[(2, (.v (.bool ((decide (a0 ≥ 33)) && (decide (a0 ≤ 126))))))], []⟩) ?_ ?_
      · refine .cv (VOk.mv (d := (.v (.int .u8 a0))) rfl rfl) rfl rfl ?_
        refine .cv (VOk.arith (op := .geq) (k := .u8) (a := a0) (b := 33) rfl rfl rfl rfl) rfl rfl ?_
        refine .cv (VOk.mv (d := (.v (.bool (decide (a0 ≥ 33))))) rfl rfl) rfl rfl ?_
        refine OpsOk.consI rfl rfl rfl (.one rfl) rfl (fun hw6 => (VOk.g (VOk.mv (d := (.v (.int .u8 a0))) rfl rfl))) ?_
        refine OpsOk.consI rfl rfl rfl (.one rfl) rfl (fun hw6 => (GOk.fr (fr' := [(15, (.v (.int .u8 a0)))]) ⟨DLe.of_eq (cT hw6).symm, trivial⟩ (VOk.g (VOk.arith (op := .leq) (k := .u8) (a := a0) (b := 126) rfl rfl rfl rfl)))) ?_
        refine .cv (VOk.to (VOk.pickI (b := (decide (a0 ≥ 33))) (p := (decide (a0 ≤ 126))) (q := false) rfl rfl (fun hp7 => (cT (t_beq hp7))) (fun hp7 => rfl)) (pickAnd (decide (a0 ≥ 33)) (decide (a0 ≤ 126)))) rfl rfl ?_
        refine .cv (VOk.asg (d := (.v (.bool ((decide (a0 ≥ 33)) && (decide (a0 ≤ 126)))))) rfl rfl) rfl rfl ?_
        exact .done (.rf rfl rfl)
      refine Ok.ret ?_
      obtain rfl := Option.some.inj H
      exact ⟨.inl rfl, ⟨_, (.cons (.tmp rfl) .nil), rfl⟩, trivial⟩

/-! watchbill/watchbillref07.Token: function 17 -/
def watchbillref07_Token.l0 (k : Nat) (a0 : Str) : Nat → Int → Option Bool
  | 0, _ => none
  | m3 + 1, x3_1 => (if (decide (x3_1 < (a0.length : Int))) = true then (if (0 : Int) ≤ x3_1 ∧ x3_1 < (a0.length : Int) then ((watchbillref07_tokenByte k (bt a0 x3_1)).bind fun (t5 : Bool) => (if (!t5) = true then some false else watchbillref07_Token.l0 k a0 m3 (IntKind.i64.wrap (x3_1 + 1)))) else none) else some (decide ((a0.length : Int) > 0)))
def watchbillref07_Token (k : Nat) (a0 : Str) : Option Bool := watchbillref07_Token.l0 k a0 k 0
theorem watchbillref07_Token.ok {k : Nat} {a0 : Str} {r : Bool} (H : watchbillref07_Token k a0 = some r) : Vx.Fn Tryd.prog 17 [(S a0)] [] (.v (.bool r)) [] := by
  unfold watchbillref07_Token at H
  refine Vx.Fn.of_okR Tryd.func17 rfl (Nat.le_of_ble_eq_true rfl) ?_
  refine Ok.seq ?_
  refine Ok.region (σ' := ⟨[(0, (S a0))], []⟩) ?_ ?_
  · refine .cv (VOk.asg (d := (.v (.bool false))) rfl rfl) rfl rfl ?_
    exact .done (.rf rfl rfl)
  refine Ok.seq ?_
  refine Ok.seq ?_
  refine Ok.region (σ' := ⟨[(0, (S a0)), (3, (.v (.int .i64 0)))], []⟩) ?_ ?_
  · refine .cv (VOk.asg (d := (.v (.int .i64 0))) rfl rfl) rfl rfl ?_
    exact .done (.rf rfl rfl)
  refine Ok.block ?_
  refine Ok.le (σ' := ⟨[(0, (S a0)), (3, (.v (.int .i64 0)))], []⟩) (.rf rfl rfl) ?_
  refine Ok.loop (fun m3 σ => ∃ (x3_1 : Int), σ = ⟨[(0, (S a0)), (3, (.v (.int .i64 x3_1)))], []⟩ ∧ watchbillref07_Token.l0 k a0 m3 x3_1 = some r) k ⟨0, rfl, H⟩ ?_
  rintro m3 σ ⟨x3_1, rfl, H⟩
  cases m3 with
  | zero => exact absurd H (by simp [watchbillref07_Token.l0])
  | succ m3 =>
    unfold watchbillref07_Token.l0 at H
    refine Ok.seq ?_
    refine Ok.seq ?_
    refine Ok.region (σ' := ⟨[(0, (S a0)), (3, (.v (.int .i64 x3_1))), (7, (.v (.bool (decide (x3_1 < (a0.length : Int))))))], []⟩) ?_ ?_
    · refine .cv (VOk.mv (d := (.v (.int .i64 x3_1))) rfl rfl) rfl rfl ?_
      refine .cv (VOk.mv (d := (S a0)) rfl rfl) rfl rfl ?_
      refine .cv (VOk.lenStr (s := a0) rfl Tryd.underlying9 rfl) rfl rfl ?_
      refine .cv (VOk.arith (op := .lss) (k := .i64) (a := x3_1) (b := (a0.length : Int)) rfl rfl rfl rfl) rfl rfl ?_
      exact .done (.rf rfl rfl)
    refine Ok.test (b := (decide (x3_1 < (a0.length : Int)))) rfl (fun hb8 => ?_) (fun hb8 => ?_)
    · replace H := ifT H hb8
      refine Ok.skip ?_
      refine Ok.seq ?_
      refine Ok.block ?_
      refine Ok.seq ?_
      obtain ⟨c4, H⟩ := assertE H
      obtain ⟨t5, h6, H⟩ := bindE H
      refine Ok.region (σ' := ⟨[(0, (S a0)), (3, (.v (.int .i64 x3_1))), (14, (.v (.bool (!t5))))], []⟩) ?_ ?_
      · refine .cv (VOk.mv (d := (S a0)) rfl rfl) rfl rfl ?_
        refine .cv (VOk.mv (d := (.v (.int .i64 x3_1))) rfl rfl) rfl rfl ?_
        refine .cv (VOk.indexStr (s := a0) (i := x3_1) rfl Tryd.underlying9 rfl rfl c4) rfl rfl ?_
        refine .cg (GOk.call rfl rfl cl39 rfl (watchbillref07_tokenByte.ok h6) rfl) rfl rfl ?_
        refine .cv (VOk.not (b := t5) rfl rfl) rfl rfl ?_
        exact .done (.rf rfl rfl)
      refine Ok.test (b := (!t5)) rfl (fun hb7 => ?_) (fun hb7 => ?_)
      · replace H := ifT H hb7
        refine Ok.seq ?_
        refine Ok.region (σ' := ⟨[(2, (.v (.bool false)))], []⟩) ?_ ?_
        · refine .cv (VOk.asg (d := (.v (.bool false))) rfl rfl) rfl rfl ?_
          exact .done (.rf rfl rfl)
        refine Ok.ret ?_
        obtain rfl := Option.some.inj H
        exact ⟨.inl rfl, ⟨_, (.cons (.tmp rfl) .nil), rfl⟩, trivial⟩
      · replace H := ifF H hb7
        refine Ok.skip ?_
        refine Ok.region (σ' := ⟨[(0, (S a0)), (3, (.v (.int .i64 (IntKind.i64.wrap (x3_1 + 1)))))], []⟩) ?_ ?_
        · refine .cv (VOk.mv (d := (.v (.int .i64 x3_1))) rfl rfl) rfl rfl ?_
          refine .cv (VOk.arith (op := .add) (k := .i64) (a := x3_1) (b := 1) rfl rfl rfl rfl) rfl rfl ?_
          refine .cv (VOk.asg (d := (.v (.int .i64 (IntKind.i64.wrap (x3_1 + 1))))) rfl rfl) rfl rfl ?_
          exact .done (.rf rfl rfl)
        exact ⟨m3, Nat.lt_succ_self m3, (IntKind.i64.wrap (x3_1 + 1)), rfl, H⟩
    · replace H := ifF H hb8
      refine Ok.exit ?_
      refine Ok.seq ?_
      refine Ok.region (σ' := ⟨[(2, (.v (.bool (decide ((a0.length : Int) > 0)))))], []⟩) ?_ ?_
      · refine .cv (VOk.mv (d := (S a0)) rfl rfl) rfl rfl ?_
        refine .cv (VOk.lenStr (s := a0) rfl Tryd.underlying9 rfl) rfl rfl ?_
        refine .cv (VOk.arith (op := .gtr) (k := .i64) (a := (a0.length : Int)) (b := 0) rfl rfl rfl rfl) rfl rfl ?_
        refine .cv (VOk.asg (d := (.v (.bool (decide ((a0.length : Int) > 0))))) rfl rfl) rfl rfl ?_
        exact .done (.rf rfl rfl)
      refine Ok.ret ?_
      obtain rfl := Option.some.inj H
      exact ⟨.inl rfl, ⟨_, (.cons (.tmp rfl) .nil), rfl⟩, trivial⟩

/-! watchbill/watchbilllaw07.FieldPrints: function 5 -/
def watchbilllaw07_FieldPrints (k : Nat) (a0 : List T_api_Field) (a1 : Str) : Option Bool := ((watchbilllaw07_awake k).bind fun (t1 : Bool) => (if (!t1) = true then some false else ((watchbilllaw07_Few k a0).bind fun (t3 : Bool) => (if ((!t3) || (decide ((a1.length : Int) > 5000))) = true then some true else (if (([] : List T_api_Field).length + a0.length) * 32 ≤ 140737488355328 then ((field_Print k (([] : List T_api_Field) ++ a0)).bind fun (t8 : Str × Int) => ((watchbillref07_Print k a0).bind fun (t10 : Str × Int) => ((field_Get k a0 a1).bind fun (t12 : Str × Bool) => ((watchbillref07_Get k a0 a1).bind fun (t14 : Str × Bool) => (((if (((((t8.1 == t10.1) && (t8.2 == t10.2)) && (t12.1 == t14.1)) && (t12.2 == t14.2)) == true) = true then field_Token k a1 else some default)).bind fun (t23 : Bool) => (((if (((((t8.1 == t10.1) && (t8.2 == t10.2)) && (t12.1 == t14.1)) && (t12.2 == t14.2)) == true) = true then watchbillref07_Token k a1 else some default)).bind fun (t25 : Bool) => some (((((t8.1 == t10.1) && (t8.2 == t10.2)) && (t12.1 == t14.1)) && (t12.2 == t14.2)) && (t23 == t25)))))))) else none)))))
theorem watchbilllaw07_FieldPrints.ok {k : Nat} {a0 : List T_api_Field} {a1 : Str} {r : Bool} (H : watchbilllaw07_FieldPrints k a0 a1 = some r) : Vx.Fn Tryd.prog 5 [(L 2 e_api_Field a0), (S a1)] [] (.v (.bool r)) [] := by
  unfold watchbilllaw07_FieldPrints at H
  refine Vx.Fn.of_okR Tryd.func5 rfl (Nat.le_of_ble_eq_true rfl) ?_
  refine Ok.seq ?_
  refine Ok.region (σ' := ⟨[(0, (L 2 e_api_Field a0)), (1, (S a1))], []⟩) ?_ ?_
  · refine .cv (VOk.asg (d := (.v (.bool false))) rfl rfl) rfl rfl ?_
    exact .done (.rf rfl rfl)
  refine Ok.seq ?_
  refine Ok.seq ?_
  obtain ⟨t1, h2, H⟩ := bindE H
  refine Ok.region (σ' := ⟨[(0, (L 2 e_api_Field a0)), (1, (S a1)), (14, (.v (.bool (!t1))))], []⟩) ?_ ?_
  · refine .cg (GOk.call rfl rfl cl8 rfl (watchbilllaw07_awake.ok h2) rfl) rfl rfl ?_
    refine .cv (VOk.not (b := t1) rfl rfl) rfl rfl ?_
    exact .done (.rf rfl rfl)
  refine Ok.test (b := (!t1)) rfl (fun hb29 => ?_) (fun hb29 => ?_)
  · replace H := ifT H hb29
    refine Ok.seq ?_
    refine Ok.region (σ' := ⟨[(4, (.v (.bool false)))], []⟩) ?_ ?_
    · refine .cv (VOk.asg (d := (.v (.bool false))) rfl rfl) rfl rfl ?_
      exact .done (.rf rfl rfl)
    refine Ok.ret ?_
    obtain rfl := Option.some.inj H
    exact ⟨.inl rfl, ⟨_, (.cons (.tmp rfl) .nil), rfl⟩, trivial⟩
  · replace H := ifF H hb29
    refine Ok.skip ?_
    refine Ok.seq ?_
    refine Ok.seq ?_
    obtain ⟨t3, h4, H⟩ := bindE H
    refine Ok.region (σ' := ⟨[(0, (L 2 e_api_Field a0)), (1, (S a1)), (22, (.v (.bool ((!t3) || (decide ((a1.length : Int) > 5000))))))], []⟩) ?_ ?_
    · refine .cv (VOk.mv (d := (L 2 e_api_Field a0)) rfl rfl) rfl rfl ?_
      refine .cg (GOk.call rfl rfl cl9 rfl (watchbilllaw07_Few.ok h4) rfl) rfl rfl ?_
      refine .cv (VOk.not (b := t3) rfl rfl) rfl rfl ?_
      refine .cv (VOk.mv (d := (.v (.bool (!t3)))) rfl rfl) rfl rfl ?_
      refine OpsOk.consI rfl rfl rfl (.one rfl) rfl (fun hw5 => (VOk.g (VOk.mv (d := (S a1)) rfl rfl))) ?_
      refine OpsOk.consI rfl rfl rfl (.one rfl) rfl (fun hw5 => (GOk.fr (fr' := [(19, (S a1))]) ⟨DLe.of_eq (cT hw5).symm, trivial⟩ (VOk.g (VOk.lenStr (s := a1) rfl Tryd.underlying9 rfl)))) ?_
      refine OpsOk.consI rfl rfl rfl (.one rfl) rfl (fun hw5 => (GOk.fr (fr' := [(20, (.v (.int .i64 (a1.length : Int))))]) ⟨DLe.of_eq (cT hw5).symm, trivial⟩ (VOk.g (VOk.arith (op := .gtr) (k := .i64) (a := (a1.length : Int)) (b := 5000) rfl rfl rfl rfl)))) ?_
      refine .cv (VOk.to (VOk.pickI (b := (!t3)) (p := true) (q := (decide ((a1.length : Int) > 5000))) rfl rfl (fun hp6 => rfl) (fun hp6 => (cT (f_beq hp6)))) (pickOr (!t3) (decide ((a1.length : Int) > 5000)))) rfl rfl ?_
      exact .done (.rf rfl rfl)
    refine Ok.test (b := ((!t3) || (decide ((a1.length : Int) > 5000)))) rfl (fun hb28 => ?_) (fun hb28 => ?_)
    · replace H := ifT H hb28
      refine Ok.seq ?_
      refine Ok.region (σ' := ⟨[(4, (.v (.bool true)))], []⟩) ?_ ?_
      · refine .cv (VOk.asg (d := (.v (.bool true))) rfl rfl) rfl rfl ?_
        exact .done (.rf rfl rfl)
      refine Ok.ret ?_
      obtain rfl := Option.some.inj H
      exact ⟨.inl rfl, ⟨_, (.cons (.tmp rfl) .nil), rfl⟩, trivial⟩
    · replace H := ifF H hb28
      refine Ok.skip ?_
      refine Ok.seq ?_
      obtain ⟨c7, H⟩ := assertE H
      obtain ⟨t8, h9, H⟩ := bindE H
      refine Ok.region (σ' := ⟨[(0, (L 2 e_api_Field a0)), (1, (S a1)), (5, (S t8.1)), (6, (.v (.int .i64 t8.2)))], []⟩) ?_ ?_
      · refine .cg (GOk.to (d' := (.clist 2 (List.map e_api_Field ([] : List T_api_Field)))) (GOk.litC rfl Tryd.underlying22 sz34 zs34 rfl rfl rfl rfl) rfl) rfl rfl ?_
        refine .cv (VOk.mv (d := (L 2 e_api_Field a0)) rfl rfl) rfl rfl ?_
        refine .cg (GOk.appendC (e := e_api_Field) (xs := ([] : List T_api_Field)) (ys := a0) rfl Tryd.underlying22 elt34 (.same _) rfl c7) rfl rfl ?_
        refine .cg (GOk.call rfl rfl cl10 rfl (field_Print.ok h9) rfl) rfl rfl ?_
        refine .cv (VOk.mv (d := (.tup [(S t8.1), (.v (.int .i64 t8.2))])) rfl rfl) rfl rfl ?_
        refine .cv (VOk.extract (d := (S t8.1)) rfl rfl rfl) rfl rfl ?_
        refine .cv (VOk.extract (d := (.v (.int .i64 t8.2))) rfl rfl rfl) rfl rfl ?_
        refine .cv (VOk.asg (d := (S t8.1)) rfl rfl) rfl rfl ?_
        refine .cv (VOk.asg (d := (.v (.int .i64 t8.2))) rfl rfl) rfl rfl ?_
        exact .done (.rf rfl rfl)
      refine Ok.seq ?_
      obtain ⟨t10, h11, H⟩ := bindE H
      refine Ok.region (σ' := ⟨[(0, (L 2 e_api_Field a0)), (1, (S a1)), (5, (S t8.1)), (6, (.v (.int .i64 t8.2))), (7, (S t10.1)), (8, (.v (.int .i64 t10.2)))], []⟩) ?_ ?_
      · refine .cv (VOk.mv (d := (L 2 e_api_Field a0)) rfl rfl) rfl rfl ?_
        refine .cg (GOk.call rfl rfl cl13 rfl (watchbillref07_Print.ok h11) rfl) rfl rfl ?_
        refine .cv (VOk.mv (d := (.tup [(S t10.1), (.v (.int .i64 t10.2))])) rfl rfl) rfl rfl ?_
        refine .cv (VOk.extract (d := (S t10.1)) rfl rfl rfl) rfl rfl ?_
        refine .cv (VOk.extract (d := (.v (.int .i64 t10.2))) rfl rfl rfl) rfl rfl ?_
        refine .cv (VOk.asg (d := (S t10.1)) rfl rfl) rfl rfl ?_
        refine .cv (VOk.asg (d := (.v (.int .i64 t10.2))) rfl rfl) rfl rfl ?_
        exact .done (.rf rfl rfl)
      refine Ok.seq ?_
      obtain ⟨t12, h13, H⟩ := bindE H
      refine Ok.region (σ' := ⟨[(0, (L 2 e_api_Field a0)), (1, (S a1)), (5, (S t8.1)), (6, (.v (.int .i64 t8.2))), (7, (S t10.1)), (8, (.v (.int .i64 t10.2))), (9, (S t12.1)), (10, (.v (.bool t12.2)))], []⟩) ?_ ?_
      · refine .cv (VOk.mv (d := (L 2 e_api_Field a0)) rfl rfl) rfl rfl ?_
        refine .cv (VOk.mv (d := (S a1)) rfl rfl) rfl rfl ?_
        refine .cg (GOk.call rfl rfl cl14 rfl (field_Get.ok h13) rfl) rfl rfl ?_
        refine .cv (VOk.mv (d := (.tup [(S t12.1), (.v (.bool t12.2))])) rfl rfl) rfl rfl ?_
        refine .cv (VOk.extract (d := (S t12.1)) rfl rfl rfl) rfl rfl ?_
        refine .cv (VOk.extract (d := (.v (.bool t12.2))) rfl rfl rfl) rfl rfl ?_
        refine .cv (VOk.asg (d := (S t12.1)) rfl rfl) rfl rfl ?_
        refine .cv (VOk.asg (d := (.v (.bool t12.2))) rfl rfl) rfl rfl ?_
        exact .done (.rf rfl rfl)
      refine Ok.seq ?_
      obtain ⟨t14, h15, H⟩ := bindE H
      refine Ok.region (σ' := ⟨[(1, (S a1)), (5, (S t8.1)), (6, (.v (.int .i64 t8.2))), (7, (S t10.1)), (8, (.v (.int .i64 t10.2))), (9, (S t12.1)), (10, (.v (.bool t12.2))), (11, (S t14.1)), (12, (.v (.bool t14.2)))], []⟩) ?_ ?_
      · refine .cv (VOk.mv (d := (L 2 e_api_Field a0)) rfl rfl) rfl rfl ?_
        refine .cv (VOk.mv (d := (S a1)) rfl rfl) rfl rfl ?_
        refine .cg (GOk.call rfl rfl cl15 rfl (watchbillref07_Get.ok h15) rfl) rfl rfl ?_
        refine .cv (VOk.mv (d := (.tup [(S t14.1), (.v (.bool t14.2))])) rfl rfl) rfl rfl ?_
        refine .cv (VOk.extract (d := (S t14.1)) rfl rfl rfl) rfl rfl ?_
        refine .cv (VOk.extract (d := (.v (.bool t14.2))) rfl rfl rfl) rfl rfl ?_
        refine .cv (VOk.asg (d := (S t14.1)) rfl rfl) rfl rfl ?_
        refine .cv (VOk.asg (d := (.v (.bool t14.2))) rfl rfl) rfl rfl ?_
        exact .done (.rf rfl rfl)
      refine Ok.seq ?_
      obtain ⟨t23, h24, H⟩ := bindE H
      obtain ⟨t25, h26, H⟩ := bindE H
      refine Ok.region (σ' := ⟨[(4, (.v (.bool (((((t8.1 == t10.1) && (t8.2 == t10.2)) && (t12.1 == t14.1)) && (t12.2 == t14.2)) && (t23 == t25)))))], []⟩) ?_ ?_
      · refine .cv (VOk.mv (d := (S t8.1)) rfl rfl) rfl rfl ?_
        refine .cv (VOk.mv (d := (S t10.1)) rfl rfl) rfl rfl ?_
        refine .cv (VOk.strOp (op := .eql) (a := t8.1) (b := t10.1) rfl rfl rfl rfl) rfl rfl ?_
        refine .cv (VOk.mv (d := (.v (.bool (t8.1 == t10.1)))) rfl rfl) rfl rfl ?_
        refine OpsOk.consI rfl rfl rfl (.one rfl) rfl (fun hw16 => (VOk.g (VOk.mv (d := (.v (.int .i64 t8.2))) rfl rfl))) ?_
        refine OpsOk.consI rfl rfl rfl (.one rfl) rfl (fun hw16 => (VOk.g (VOk.mv (d := (.v (.int .i64 t10.2))) rfl rfl))) ?_
        refine OpsOk.consI rfl rfl rfl (.one rfl) rfl (fun hw16 => (GOk.fr (fr' := [(51, (.v (.int .i64 t8.2))), (52, (.v (.int .i64 t10.2)))]) ⟨DLe.of_eq (cT hw16).symm, DLe.of_eq (cT hw16).symm, trivial⟩ (VOk.g (VOk.arith (op := .eql) (k := .i64) (a := t8.2) (b := t10.2) rfl rfl rfl rfl)))) ?_
        refine .cv (VOk.to (VOk.pickI (b := (t8.1 == t10.1)) (p := (t8.2 == t10.2)) (q := false) rfl rfl (fun hp17 => (cT (t_beq hp17))) (fun hp17 => rfl)) (pickAnd (t8.1 == t10.1) (t8.2 == t10.2))) rfl rfl ?_
        refine .cv (VOk.mv (d := (.v (.bool ((t8.1 == t10.1) && (t8.2 == t10.2))))) rfl rfl) rfl rfl ?_
        refine OpsOk.consI rfl rfl rfl (.one rfl) rfl (fun hw18 => (VOk.g (VOk.mv (d := (S t12.1)) rfl rfl))) ?_
        refine OpsOk.consI rfl rfl rfl (.one rfl) rfl (fun hw18 => (VOk.g (VOk.mv (d := (S t14.1)) rfl rfl))) ?_
        refine OpsOk.consI rfl rfl rfl (.one rfl) rfl (fun hw18 => (GOk.fr (fr' := [(56, (S t12.1)), (57, (S t14.1))]) ⟨DLe.of_eq (cT hw18).symm, DLe.of_eq (cT hw18).symm, trivial⟩ (VOk.g (VOk.strOp (op := .eql) (a := t12.1) (b := t14.1) rfl rfl rfl rfl)))) ?_
        refine .cv (VOk.to (VOk.pickI (b := ((t8.1 == t10.1) && (t8.2 == t10.2))) (p := (t12.1 == t14.1)) (q := false) rfl rfl (fun hp19 => (cT (t_beq hp19))) (fun hp19 => rfl)) (pickAnd ((t8.1 == t10.1) && (t8.2 == t10.2)) (t12.1 == t14.1))) rfl rfl ?_
        refine .cv (VOk.mv (d := (.v (.bool (((t8.1 == t10.1) && (t8.2 == t10.2)) && (t12.1 == t14.1))))) rfl rfl) rfl rfl ?_
        refine OpsOk.consI rfl rfl rfl (.one rfl) rfl (fun hw20 => (VOk.g (VOk.mv (d := (.v (.bool t12.2))) rfl rfl))) ?_
        refine OpsOk.consI rfl rfl rfl (.one rfl) rfl (fun hw20 => (VOk.g (VOk.mv (d := (.v (.bool t14.2))) rfl rfl))) ?_
        refine OpsOk.consI rfl rfl rfl (.one rfl) rfl (fun hw20 => (GOk.fr (fr' := [(61, (.v (.bool t12.2))), (62, (.v (.bool t14.2)))]) ⟨DLe.of_eq (cT hw20).symm, DLe.of_eq (cT hw20).symm, trivial⟩ (VOk.g (VOk.eqB (op := .eql) (p := t12.2) (q := t14.2) rfl (.inl rfl) Tryd.underlying4 rfl rfl)))) ?_
        refine .cv (VOk.to (VOk.pickI (b := (((t8.1 == t10.1) && (t8.2 == t10.2)) && (t12.1 == t14.1))) (p := (t12.2 == t14.2)) (q := false) rfl rfl (fun hp21 => (cT (t_beq hp21))) (fun hp21 => rfl)) (pickAnd (((t8.1 == t10.1) && (t8.2 == t10.2)) && (t12.1 == t14.1)) (t12.2 == t14.2))) rfl rfl ?_
        refine .cv (VOk.mv (d := (.v (.bool ((((t8.1 == t10.1) && (t8.2 == t10.2)) && (t12.1 == t14.1)) && (t12.2 == t14.2))))) rfl rfl) rfl rfl ?_
        refine OpsOk.consI rfl rfl rfl (.one rfl) rfl (fun hw22 => (VOk.g (VOk.mv (d := (S a1)) rfl rfl))) ?_
        refine OpsOk.consI rfl rfl rfl (.one rfl) rfl (fun hw22 => (GOk.fr (fr' := [(66, (S a1))]) ⟨DLe.of_eq (cT hw22).symm, trivial⟩ (GOk.call rfl rfl cl16 rfl (field_Token.ok (ifT h24 hw22)) rfl))) ?_
        refine OpsOk.consI rfl rfl rfl (.one rfl) rfl (fun hw22 => (VOk.g (VOk.mv (d := (S a1)) rfl rfl))) ?_
        refine OpsOk.consI rfl rfl rfl (.one rfl) rfl (fun hw22 => (GOk.fr (fr' := [(68, (S a1))]) ⟨DLe.of_eq (cT hw22).symm, trivial⟩ (GOk.call rfl rfl cl17 rfl (watchbillref07_Token.ok (ifT h26 hw22)) rfl))) ?_
        refine OpsOk.consI rfl rfl rfl (.one rfl) rfl (fun hw22 => (GOk.fr (fr' := [(67, (.v (.bool t23))), (69, (.v (.bool t25)))]) ⟨DLe.of_eq (cT hw22).symm, DLe.of_eq (cT hw22).symm, trivial⟩ (VOk.g (VOk.eqB (op := .eql) (p := t23) (q := t25) rfl (.inl rfl) Tryd.underlying4 rfl rfl)))) ?_
        refine .cv (VOk.to (VOk.pickI (b := ((((t8.1 == t10.1) && (t8.2 == t10.2)) && (t12.1 == t14.1)) && (t12.2 == t14.2))) (p := (t23 == t25)) (q := false) rfl rfl (fun hp27 => (cT (t_beq hp27))) (fun hp27 => rfl)) (pickAnd ((((t8.1 == t10.1) && (t8.2 == t10.2)) && (t12.1 == t14.1)) && (t12.2 == t14.2)) (t23 == t25))) rfl rfl ?_
        refine .cv (VOk.asg (d := (.v (.bool (((((t8.1 == t10.1) && (t8.2 == t10.2)) && (t12.1 == t14.1)) && (t12.2 == t14.2)) && (t23 == t25))))) rfl rfl) rfl rfl ?_
        exact .done (.rf rfl rfl)
      refine Ok.ret ?_
      obtain rfl := Option.some.inj H
      exact ⟨.inl rfl, ⟨_, (.cons (.tmp rfl) .nil), rfl⟩, trivial⟩

end Go.Proofs.YtpdhjbjkakpejaaDoor.Sh
