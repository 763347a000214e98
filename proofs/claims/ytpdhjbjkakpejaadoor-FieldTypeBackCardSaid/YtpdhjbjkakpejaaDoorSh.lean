import Derived.Test.YtpdhjbjkakpejaaDoorProg
import Derived.Test.YtpdhjbjkakpejaaDoorSha
namespace Go.Proofs.YtpdhjbjkakpejaaDoor.Sh
open Go Go.RowKit Go.Proofs.Vx
set_option linter.unusedVariables false

set_option maxRecDepth 100000
set_option maxHeartbeats 1000000
/-! watchbill/field.ParseType: function 21 -/
def field_ParseType.l0 (k : Nat) (a0 : Str) (t3 : Str × T_field_scanner) (t7 : Str × T_field_scanner) : Nat → Str → Int → List T_api_Field → Option (Str × (List T_api_Field) × Int)
  | 0, _, _, _ => none
  | m19 + 1, y15_0_14, y15_1_15, y3_13 => ((field_scanner_blanks k (T_field_scanner.mk y15_0_14 y15_1_15)).bind fun (t20 : T_field_scanner) => (if (t20.At_ == (a0.length : Int)) = true then (if t3.1.length + ([47] : Str).length ≤ 9223372036854775807 then (if (t3.1 ++ ([47] : Str)).length + t7.1.length ≤ 9223372036854775807 then ((field_lower k ((t3.1 ++ ([47] : Str)) ++ t7.1)).bind fun (t24 : Str) => some (t24, y3_13, 0)) else none) else none) else ((field_scanner_sign t20 59).bind fun (t26 : Bool × T_field_scanner) => (if (!t26.1) = true then some (([] : Str), ([] : List T_api_Field), 4) else ((field_scanner_param k t26.2).bind fun (t28 : T_api_Field × Bool × T_field_scanner) => ((field_Param k y3_13 t28.1.Name).bind fun (t30 : Str × Bool) => (if ((!t28.2.1) || t30.2) = true then some (([] : Str), ([] : List T_api_Field), 4) else (if (y3_13.length + ([t28.1] : List T_api_Field).length) * 32 ≤ 140737488355328 then field_ParseType.l0 k a0 t3 t7 m19 t28.2.2.S_ t28.2.2.At_ (y3_13 ++ ([t28.1] : List T_api_Field)) else none))))))))
def field_ParseType (k : Nat) (a0 : Str) : Option (Str × (List T_api_Field) × Int) := ((field_scanner_blanks k (T_field_scanner.mk a0 0)).bind fun (t1 : T_field_scanner) => ((field_scanner_token k t1).bind fun (t3 : Str × T_field_scanner) => ((field_scanner_sign t3.2 47).bind fun (t5 : Bool × T_field_scanner) => ((field_scanner_token k t5.2).bind fun (t7 : Str × T_field_scanner) => (if (((t3.1 == ([] : Str)) || (!t5.1)) || (t7.1 == ([] : Str))) = true then some (([] : Str), ([] : List T_api_Field), 31) else field_ParseType.l0 k a0 t3 t7 k t7.2.S_ t7.2.At_ ([] : List T_api_Field))))))
theorem field_ParseType.ok {k : Nat} {a0 : Str} {r : Str × (List T_api_Field) × Int} (H : field_ParseType k a0 = some r) : Vx.Fn Tryd.prog 21 [(S a0)] [] (.tup [(S r.1), (L 2 e_api_Field r.2.1), (.v (.int .i64 r.2.2))]) [] := by
  unfold field_ParseType at H
  refine Vx.Fn.of_okR Tryd.func21 rfl (Nat.le_of_ble_eq_true rfl) ?_
  refine Ok.seq ?_
  refine Ok.region (σ' := ⟨[(0, (S a0)), (3, (.sref 3))], [(3, (.rows true 54 2 (([] : List T_api_Field).map e_api_Field)))]⟩) ?_ ?_
  · refine .cv (VOk.asg (d := (S ([] : Str))) rfl rfl) rfl rfl ?_
    refine OpsOk.cons rfl (.nilT 3 54 2 (.inl rfl) rfl rfl) ?_
    refine .cv (VOk.asg (d := (.v (.int .i64 0))) rfl rfl) rfl rfl ?_
    exact .done (.rf rfl rfl)
  refine Ok.seq ?_
  refine Ok.region (σ' := ⟨[(0, (S a0)), (3, (.sref 3)), (5, (.bref 15 0))], [(3, (.rows true 54 2 (([] : List T_api_Field).map e_api_Field))), (15, (.box .ex [(S ((T_field_scanner.mk a0 0).S_)), (.v (.int .i64 ((T_field_scanner.mk a0 0).At_)))]))]⟩) ?_ ?_
  · refine .cv (VOk.mv (d := (S a0)) rfl rfl) rfl rfl ?_
    refine .cv (VOk.to (d' := (.agg (e_field_scanner (T_field_scanner.mk a0 0)))) (.build [none, none] [(0, 1), (1, 1)] rfl Tryd.underlying71 (fa71 Tryd.underlying71) zo71 rfl rfl) rfl) rfl rfl ?_
    refine OpsOk.cons rfl (OpOk.box 15 (cells := [(S ((T_field_scanner.mk a0 0).S_)), (.v (.int .i64 ((T_field_scanner.mk a0 0).At_)))]) rfl rfl rfl rfl) ?_
    refine .cv (VOk.asg (d := (.bref 15 0)) rfl rfl) rfl rfl ?_
    exact .done (.rf rfl rfl)
  refine Ok.seq ?_
  obtain ⟨t1, h2, H⟩ := bindE H
  refine Ok.region (σ' := ⟨[(0, (S a0)), (3, (.sref 3)), (5, (.bref 15 0))], [(3, (.rows true 54 2 (([] : List T_api_Field).map e_api_Field))), (15, (.box .ex [(S t1.S_), (.v (.int .i64 t1.At_))]))]⟩) ?_ ?_
  · refine .cv (VOk.mv (d := (.bref 15 0)) rfl rfl) rfl rfl ?_
    refine OpsOk.cons rfl (OpOk.callB (e := .ex) (ds0 := [(.bref 15 0)]) 15 rfl (.same _) cl45 (fun b => ((field_scanner_blanks.ok h2) b)) rfl ⟨.same _, trivial⟩ rfl rfl rfl rfl rfl) ?_
    exact .done (.rf rfl rfl)
  refine Ok.seq ?_
  obtain ⟨t3, h4, H⟩ := bindE H
  refine Ok.region (σ' := ⟨[(0, (S a0)), (3, (.sref 3)), (5, (.bref 15 0)), (6, (S t3.1))], [(3, (.rows true 54 2 (([] : List T_api_Field).map e_api_Field))), (15, (.box .ex [(S t3.2.S_), (.v (.int .i64 t3.2.At_))]))]⟩) ?_ ?_
  · refine .cv (VOk.mv (d := (.bref 15 0)) rfl rfl) rfl rfl ?_
    refine OpsOk.cons rfl (OpOk.callB (e := .ex) (ds0 := [(.bref 15 0)]) 15 rfl (.same _) cl46 (fun b => ((field_scanner_token.ok h4) b)) rfl ⟨.same _, trivial⟩ rfl rfl rfl rfl rfl) ?_
    refine .cv (VOk.asg (d := (S t3.1)) rfl rfl) rfl rfl ?_
    exact .done (.rf rfl rfl)
  refine Ok.seq ?_
  obtain ⟨t5, h6, H⟩ := bindE H
  refine Ok.region (σ' := ⟨[(0, (S a0)), (3, (.sref 3)), (5, (.bref 15 0)), (6, (S t3.1)), (7, (.v (.bool t5.1)))], [(3, (.rows true 54 2 (([] : List T_api_Field).map e_api_Field))), (15, (.box .ex [(S t5.2.S_), (.v (.int .i64 t5.2.At_))]))]⟩) ?_ ?_
  · refine .cv (VOk.mv (d := (.bref 15 0)) rfl rfl) rfl rfl ?_
    refine OpsOk.cons rfl (OpOk.callB (e := .ex) (ds0 := [(.bref 15 0), (.v (.int .u8 47))]) 15 rfl (.same _) cl47 (fun b => ((field_scanner_sign.ok h6) b)) rfl ⟨.same _, .same _, trivial⟩ rfl rfl rfl rfl rfl) ?_
    refine .cv (VOk.asg (d := (.v (.bool t5.1))) rfl rfl) rfl rfl ?_
    exact .done (.rf rfl rfl)
  refine Ok.seq ?_
  obtain ⟨t7, h8, H⟩ := bindE H
  refine Ok.region (σ' := ⟨[(0, (S a0)), (3, (.sref 3)), (5, (.bref 15 0)), (6, (S t3.1)), (7, (.v (.bool t5.1))), (8, (S t7.1))], [(3, (.rows true 54 2 (([] : List T_api_Field).map e_api_Field))), (15, (.box .ex [(S t7.2.S_), (.v (.int .i64 t7.2.At_))]))]⟩) ?_ ?_
  · refine .cv (VOk.mv (d := (.bref 15 0)) rfl rfl) rfl rfl ?_
    refine OpsOk.cons rfl (OpOk.callB (e := .ex) (ds0 := [(.bref 15 0)]) 15 rfl (.same _) cl46 (fun b => ((field_scanner_token.ok h8) b)) rfl ⟨.same _, trivial⟩ rfl rfl rfl rfl rfl) ?_
    refine .cv (VOk.asg (d := (S t7.1)) rfl rfl) rfl rfl ?_
    exact .done (.rf rfl rfl)
  refine Ok.seq ?_
  refine Ok.seq ?_
  refine Ok.region (σ' := ⟨[(0, (S a0)), (3, (.sref 3)), (5, (.bref 15 0)), (6, (S t3.1)), (8, (S t7.1)), (33, (.v (.bool (((t3.1 == ([] : Str)) || (!t5.1)) || (t7.1 == ([] : Str))))))], [(3, (.rows true 54 2 (([] : List T_api_Field).map e_api_Field))), (15, (.box .ex [(S t7.2.S_), (.v (.int .i64 t7.2.At_))]))]⟩) ?_ ?_
  · refine .cv (VOk.mv (d := (S t3.1)) rfl rfl) rfl rfl ?_
    refine .cv (VOk.strOp (op := .eql) (a := t3.1) (b := ([] : Str)) rfl rfl rfl rfl) rfl rfl ?_
    refine .cv (VOk.mv (d := (.v (.bool (t3.1 == ([] : Str))))) rfl rfl) rfl rfl ?_
    refine OpsOk.consI rfl rfl rfl (.one rfl) rfl (fun hw9 => (VOk.g (VOk.mv (d := (.v (.bool t5.1))) rfl rfl))) ?_
    refine OpsOk.consI rfl rfl rfl (.one rfl) rfl (fun hw9 => (GOk.fr (fr' := [(27, (.v (.bool t5.1)))]) ⟨DLe.of_eq (cT hw9).symm, trivial⟩ (VOk.g (VOk.not (b := t5.1) rfl rfl)))) ?_
    refine .cv (VOk.to (VOk.pickI (b := (t3.1 == ([] : Str))) (p := true) (q := (!t5.1)) rfl rfl (fun hp10 => rfl) (fun hp10 => (cT (f_beq hp10)))) (pickOr (t3.1 == ([] : Str)) (!t5.1))) rfl rfl ?_
    refine .cv (VOk.mv (d := (.v (.bool ((t3.1 == ([] : Str)) || (!t5.1))))) rfl rfl) rfl rfl ?_
    refine OpsOk.consI rfl rfl rfl (.one rfl) rfl (fun hw11 => (VOk.g (VOk.mv (d := (S t7.1)) rfl rfl))) ?_
    refine OpsOk.consI rfl rfl rfl (.one rfl) rfl (fun hw11 => (GOk.fr (fr' := [(31, (S t7.1))]) ⟨DLe.of_eq (cT hw11).symm, trivial⟩ (VOk.g (VOk.strOp (op := .eql) (a := t7.1) (b := ([] : Str)) rfl rfl rfl rfl)))) ?_
    refine .cv (VOk.to (VOk.pickI (b := ((t3.1 == ([] : Str)) || (!t5.1))) (p := true) (q := (t7.1 == ([] : Str))) rfl rfl (fun hp12 => rfl) (fun hp12 => (cT (f_beq hp12)))) (pickOr ((t3.1 == ([] : Str)) || (!t5.1)) (t7.1 == ([] : Str)))) rfl rfl ?_
    exact .done (.rf rfl rfl)
  refine Ok.test (b := (((t3.1 == ([] : Str)) || (!t5.1)) || (t7.1 == ([] : Str)))) rfl (fun hb38 => ?_) (fun hb38 => ?_)
  · replace H := ifT H hb38
    refine Ok.seq ?_
    refine Ok.region (σ' := ⟨[(2, (S ([] : Str))), (3, (.sref 3)), (4, (.v (.int .i64 31)))], [(3, (.rows true 54 2 (([] : List T_api_Field).map e_api_Field)))]⟩) ?_ ?_
    · refine .cv (VOk.asg (d := (S ([] : Str))) rfl rfl) rfl rfl ?_
      refine OpsOk.cons rfl (.nilT 3 54 2 (.inl rfl) rfl rfl) ?_
      refine .cv (VOk.asg (d := (.v (.int .i64 31))) rfl rfl) rfl rfl ?_
      exact .done (.rf rfl rfl)
    refine Ok.frzL 3 (e := e_api_Field) (xs := ([] : List T_api_Field)) rfl ?_
    refine Ok.ret ?_
    obtain rfl := Option.some.inj H
    exact ⟨.inl rfl, ⟨_, (.cons (.tmp rfl) (.cons (.tmp rfl) (.cons (.tmp rfl) .nil))), rfl⟩, trivial⟩
  · replace H := ifF H hb38
    refine Ok.skip ?_
    refine Ok.block ?_
    refine Ok.le (σ' := ⟨[(0, (S a0)), (3, (.sref 3)), (5, (.bref 15 0)), (6, (S t3.1)), (8, (S t7.1))], [(3, (.rows true 54 2 (([] : List T_api_Field).map e_api_Field))), (15, (.box .ex [(S t7.2.S_), (.v (.int .i64 t7.2.At_))]))]⟩) (.rf rfl rfl) ?_
    refine Ok.loop (fun m19 σ => ∃ (y15_0_14 : Str) (y15_1_15 : Int) (y3_13 : List T_api_Field), σ = ⟨[(0, (S a0)), (3, (.sref 3)), (5, (.bref 15 0)), (6, (S t3.1)), (8, (S t7.1))], [(3, (.rows true 54 2 (y3_13.map e_api_Field))), (15, (.box .ex [(S y15_0_14), (.v (.int .i64 y15_1_15))]))]⟩ ∧ field_ParseType.l0 k a0 t3 t7 m19 y15_0_14 y15_1_15 y3_13 = some r) k ⟨t7.2.S_, t7.2.At_, ([] : List T_api_Field), rfl, H⟩ ?_
    rintro m19 σ ⟨y15_0_14, y15_1_15, y3_13, rfl, H⟩
    cases m19 with
    | zero => exact absurd H (by simp [field_ParseType.l0])
    | succ m19 =>
      unfold field_ParseType.l0 at H
      refine Ok.block ?_
      refine Ok.seq ?_
      obtain ⟨t20, h21, H⟩ := bindE H
      refine Ok.region (σ' := ⟨[(0, (S a0)), (3, (.sref 3)), (5, (.bref 15 0)), (6, (S t3.1)), (8, (S t7.1))], [(3, (.rows true 54 2 (y3_13.map e_api_Field))), (15, (.box .ex [(S t20.S_), (.v (.int .i64 t20.At_))]))]⟩) ?_ ?_
      · refine .cv (VOk.mv (d := (.bref 15 0)) rfl rfl) rfl rfl ?_
        refine OpsOk.cons rfl (OpOk.callB (e := .ex) (ds0 := [(.bref 15 0)]) 15 rfl (.same _) cl45 (fun b => ((field_scanner_blanks.ok h21) b)) rfl ⟨.same _, trivial⟩ rfl rfl rfl rfl rfl) ?_
        exact .done (.rf rfl rfl)
      refine Ok.seq ?_
      refine Ok.seq ?_
      refine Ok.region (σ' := ⟨[(0, (S a0)), (3, (.sref 3)), (5, (.bref 15 0)), (6, (S t3.1)), (8, (S t7.1)), (42, (.v (.bool (t20.At_ == (a0.length : Int)))))], [(3, (.rows true 54 2 (y3_13.map e_api_Field))), (15, (.box .ex [(S t20.S_), (.v (.int .i64 t20.At_))]))]⟩) ?_ ?_
      · refine .cv (VOk.mv (d := (.bref 15 0)) rfl rfl) rfl rfl ?_
        refine .cv (VOk.nilCheckB rfl rfl rfl) rfl rfl ?_
        refine .cv (VOk.to (VOk.fieldB rfl Tryd.underlying71 rfl sz3 rfl rfl) rfl) rfl rfl ?_
        refine .cv (VOk.loadB (d := (.v (.int .i64 t20.At_))) rfl Tryd.underlying3 rfl rfl rfl rfl) rfl rfl ?_
        refine .cv (VOk.mv (d := (S a0)) rfl rfl) rfl rfl ?_
        refine .cv (VOk.lenStr (s := a0) rfl Tryd.underlying9 rfl) rfl rfl ?_
        refine .cv (VOk.arith (op := .eql) (k := .i64) (a := t20.At_) (b := (a0.length : Int)) rfl rfl rfl rfl) rfl rfl ?_
        exact .done (.rf rfl rfl)
      refine Ok.test (b := (t20.At_ == (a0.length : Int))) rfl (fun hb37 => ?_) (fun hb37 => ?_)
      · replace H := ifT H hb37
        refine Ok.seq ?_
        obtain ⟨c22, H⟩ := assertE H
        obtain ⟨c23, H⟩ := assertE H
        obtain ⟨t24, h25, H⟩ := bindE H
        refine Ok.region (σ' := ⟨[(2, (S t24)), (3, (.sref 3)), (4, (.v (.int .i64 0)))], [(3, (.rows true 54 2 (y3_13.map e_api_Field)))]⟩) ?_ ?_
        · refine .cv (VOk.mv (d := (S t3.1)) rfl rfl) rfl rfl ?_
          refine .cv (VOk.cat (a := t3.1) (b := ([47] : Str)) rfl rfl rfl c22) rfl rfl ?_
          refine .cv (VOk.mv (d := (S t7.1)) rfl rfl) rfl rfl ?_
          refine .cv (VOk.cat (a := (t3.1 ++ ([47] : Str))) (b := t7.1) rfl rfl rfl c23) rfl rfl ?_
          refine .cg (GOk.call rfl rfl cl34 rfl (field_lower.ok h25) rfl) rfl rfl ?_
          refine .cv (VOk.mv (d := (.sref 3)) rfl rfl) rfl rfl ?_
          refine .cv (VOk.asg (d := (S t24)) rfl rfl) rfl rfl ?_
          refine .cv (VOk.asg (d := (.sref 3)) rfl rfl) rfl rfl ?_
          refine .cv (VOk.asg (d := (.v (.int .i64 0))) rfl rfl) rfl rfl ?_
          exact .done (.rf rfl rfl)
        refine Ok.frzL 3 (e := e_api_Field) (xs := y3_13) rfl ?_
        refine Ok.ret ?_
        obtain rfl := Option.some.inj H
        exact ⟨.inl rfl, ⟨_, (.cons (.tmp rfl) (.cons (.tmp rfl) (.cons (.tmp rfl) .nil))), rfl⟩, trivial⟩
      · replace H := ifF H hb37
        refine Ok.skip ?_
        refine Ok.seq ?_
        refine Ok.seq ?_
        obtain ⟨t26, h27, H⟩ := bindE H
        refine Ok.region (σ' := ⟨[(0, (S a0)), (3, (.sref 3)), (5, (.bref 15 0)), (6, (S t3.1)), (8, (S t7.1)), (51, (.v (.bool (!t26.1))))], [(3, (.rows true 54 2 (y3_13.map e_api_Field))), (15, (.box .ex [(S t26.2.S_), (.v (.int .i64 t26.2.At_))]))]⟩) ?_ ?_
        · refine .cv (VOk.mv (d := (.bref 15 0)) rfl rfl) rfl rfl ?_
          refine OpsOk.cons rfl (OpOk.callB (e := .ex) (ds0 := [(.bref 15 0), (.v (.int .u8 59))]) 15 rfl (.same _) cl47 (fun b => ((field_scanner_sign.ok h27) b)) rfl ⟨.same _, .same _, trivial⟩ rfl rfl rfl rfl rfl) ?_
          refine .cv (VOk.not (b := t26.1) rfl rfl) rfl rfl ?_
          exact .done (.rf rfl rfl)
        refine Ok.test (b := (!t26.1)) rfl (fun hb36 => ?_) (fun hb36 => ?_)
        · replace H := ifT H hb36
          refine Ok.seq ?_
          refine Ok.region (σ' := ⟨[(2, (S ([] : Str))), (3, (.sref 3)), (4, (.v (.int .i64 4)))], [(3, (.rows true 54 2 (([] : List T_api_Field).map e_api_Field)))]⟩) ?_ ?_
          · refine .cv (VOk.asg (d := (S ([] : Str))) rfl rfl) rfl rfl ?_
            refine OpsOk.cons rfl (.nilT 3 54 2 (.inl rfl) rfl rfl) ?_
            refine .cv (VOk.asg (d := (.v (.int .i64 4))) rfl rfl) rfl rfl ?_
            exact .done (.rf rfl rfl)
          refine Ok.frzL 3 (e := e_api_Field) (xs := ([] : List T_api_Field)) rfl ?_
          refine Ok.ret ?_
          obtain rfl := Option.some.inj H
          exact ⟨.inl rfl, ⟨_, (.cons (.tmp rfl) (.cons (.tmp rfl) (.cons (.tmp rfl) .nil))), rfl⟩, trivial⟩
        · replace H := ifF H hb36
          refine Ok.skip ?_
          refine Ok.seq ?_
          obtain ⟨t28, h29, H⟩ := bindE H
          refine Ok.region (σ' := ⟨[(0, (S a0)), (3, (.sref 3)), (5, (.bref 15 0)), (6, (S t3.1)), (8, (S t7.1)), (9, (.bref 9 0)), (10, (.v (.bool t28.2.1)))], [(3, (.rows true 54 2 (y3_13.map e_api_Field))), (9, (.box .ex [(S t28.1.Name), (S t28.1.Value)])), (15, (.box .ex [(S t28.2.2.S_), (.v (.int .i64 t28.2.2.At_))]))]⟩) ?_ ?_
          · refine .cv (VOk.mv (d := (.bref 15 0)) rfl rfl) rfl rfl ?_
            refine OpsOk.cons rfl (OpOk.callB (e := .ex) (ds0 := [(.bref 15 0)]) 15 rfl (.same _) cl48 (fun b => ((field_scanner_param.ok h29) b)) rfl ⟨.same _, trivial⟩ rfl rfl rfl rfl rfl) ?_
            refine .cv (VOk.mv (d := (.tup [(.agg (e_api_Field t28.1)), (.v (.bool t28.2.1))])) rfl rfl) rfl rfl ?_
            refine .cv (VOk.extract (d := (.agg (e_api_Field t28.1))) rfl rfl rfl) rfl rfl ?_
            refine .cv (VOk.extract (d := (.v (.bool t28.2.1))) rfl rfl rfl) rfl rfl ?_
            refine OpsOk.cons rfl (OpOk.alloc 9 [none, none] rfl zo54 rfl rfl) ?_
            refine OpsOk.cons rfl (OpOk.to (σ2 := St.put ⟨_, (9, (.box .ex [(S t28.1.Name), (S t28.1.Value)])) :: _⟩ _ .junk) (.storeB rfl sz54 rfl rfl rfl rfl rfl rfl) rfl) ?_
            refine .cv (VOk.asg (d := (.v (.bool t28.2.1))) rfl rfl) rfl rfl ?_
            exact .done (.rf rfl rfl)
          refine Ok.seq ?_
          refine Ok.seq ?_
          obtain ⟨t30, h31, H⟩ := bindE H
          refine Ok.region (σ' := ⟨[(0, (S a0)), (3, (.sref 3)), (5, (.bref 15 0)), (6, (S t3.1)), (8, (S t7.1)), (9, (.bref 9 0)), (10, (.v (.bool t28.2.1))), (12, (.v (.bool t30.2)))], [(3, (.rows true 54 2 (y3_13.map e_api_Field))), (9, (.box .ex [(S t28.1.Name), (S t28.1.Value)])), (15, (.box .ex [(S t28.2.2.S_), (.v (.int .i64 t28.2.2.At_))]))]⟩) ?_ ?_
          · refine .cv (VOk.mv (d := (.sref 3)) rfl rfl) rfl rfl ?_
            refine .cv (VOk.to (VOk.fieldB rfl Tryd.underlying54 rfl sz9 rfl rfl) rfl) rfl rfl ?_
            refine .cv (VOk.loadB (d := (S t28.1.Name)) rfl Tryd.underlying9 rfl rfl rfl rfl) rfl rfl ?_
            refine .cg (GOk.callV rfl rfl cl23 rfl (field_Param.ok h31) rfl) rfl rfl ?_
            refine .cv (VOk.mv (d := (.tup [(S t30.1), (.v (.bool t30.2))])) rfl rfl) rfl rfl ?_
            refine .cv (VOk.extract (d := (S t30.1)) rfl rfl rfl) rfl rfl ?_
            refine .cv (VOk.extract (d := (.v (.bool t30.2))) rfl rfl rfl) rfl rfl ?_
            refine .cv (VOk.asg (d := (S t30.1)) rfl rfl) rfl rfl ?_
            refine .cv (VOk.asg (d := (.v (.bool t30.2))) rfl rfl) rfl rfl ?_
            exact .done (.rf rfl rfl)
          refine Ok.seq ?_
          refine Ok.region (σ' := ⟨[(0, (S a0)), (3, (.sref 3)), (5, (.bref 15 0)), (6, (S t3.1)), (8, (S t7.1)), (9, (.bref 9 0)), (68, (.v (.bool ((!t28.2.1) || t30.2))))], [(3, (.rows true 54 2 (y3_13.map e_api_Field))), (9, (.box .ex [(S t28.1.Name), (S t28.1.Value)])), (15, (.box .ex [(S t28.2.2.S_), (.v (.int .i64 t28.2.2.At_))]))]⟩) ?_ ?_
          · refine .cv (VOk.mv (d := (.v (.bool t28.2.1))) rfl rfl) rfl rfl ?_
            refine .cv (VOk.not (b := t28.2.1) rfl rfl) rfl rfl ?_
            refine .cv (VOk.mv (d := (.v (.bool (!t28.2.1)))) rfl rfl) rfl rfl ?_
            refine OpsOk.consI rfl rfl rfl (.one rfl) rfl (fun hw32 => (VOk.g (VOk.mv (d := (.v (.bool t30.2))) rfl rfl))) ?_
            refine .cv (VOk.to (VOk.pickI (b := (!t28.2.1)) (p := true) (q := t30.2) rfl rfl (fun hp33 => rfl) (fun hp33 => (cT (f_beq hp33)))) (pickOr (!t28.2.1) t30.2)) rfl rfl ?_
            exact .done (.rf rfl rfl)
          refine Ok.test (b := ((!t28.2.1) || t30.2)) rfl (fun hb35 => ?_) (fun hb35 => ?_)
          · replace H := ifT H hb35
            refine Ok.seq ?_
            refine Ok.region (σ' := ⟨[(2, (S ([] : Str))), (3, (.sref 3)), (4, (.v (.int .i64 4)))], [(3, (.rows true 54 2 (([] : List T_api_Field).map e_api_Field)))]⟩) ?_ ?_
            · refine .cv (VOk.asg (d := (S ([] : Str))) rfl rfl) rfl rfl ?_
              refine OpsOk.cons rfl (.nilT 3 54 2 (.inl rfl) rfl rfl) ?_
              refine .cv (VOk.asg (d := (.v (.int .i64 4))) rfl rfl) rfl rfl ?_
              exact .done (.rf rfl rfl)
            refine Ok.frzL 3 (e := e_api_Field) (xs := ([] : List T_api_Field)) rfl ?_
            refine Ok.ret ?_
            obtain rfl := Option.some.inj H
            exact ⟨.inl rfl, ⟨_, (.cons (.tmp rfl) (.cons (.tmp rfl) (.cons (.tmp rfl) .nil))), rfl⟩, trivial⟩
          · replace H := ifF H hb35
            refine Ok.skip ?_
            obtain ⟨c34, H⟩ := assertE H
            refine Ok.region (σ' := ⟨[(0, (S a0)), (3, (.sref 3)), (5, (.bref 15 0)), (6, (S t3.1)), (8, (S t7.1))], [(3, (.rows true 54 2 ((y3_13 ++ ([t28.1] : List T_api_Field)).map e_api_Field))), (15, (.box .ex [(S t28.2.2.S_), (.v (.int .i64 t28.2.2.At_))]))]⟩) ?_ ?_
            · refine .cv (VOk.mv (d := (.sref 3)) rfl rfl) rfl rfl ?_
              refine .cv (VOk.to (d' := (.agg (e_api_Field t28.1))) (.loadBAgg rfl Tryd.underlying54 rfl sz54 rfl rfl rfl) rfl) rfl rfl ?_
              refine .cg (GOk.to (d' := (L 2 e_api_Field ([t28.1] : List T_api_Field))) (GOk.lit rfl Tryd.underlying42 sz54 zs54 rfl rfl rfl rfl) rfl) rfl rfl ?_
              refine OpsOk.cons rfl (OpOk.appendL (e := e_api_Field) (xs := y3_13) (ys := ([t28.1] : List T_api_Field)) rfl Tryd.underlying42 elt54 rfl rfl rfl c34 rfl) ?_
              refine .cv (VOk.asg (d := (.sref 3)) rfl rfl) rfl rfl ?_
              exact .done (.rf rfl rfl)
            exact ⟨m19, Nat.lt_succ_self m19, t28.2.2.S_, t28.2.2.At_, (y3_13 ++ ([t28.1] : List T_api_Field)), rfl, H⟩

/-! watchbill/watchbilllaw07.awake: function 8 -/
def watchbilllaw07_awake (k : Nat) : Option Bool := ((field_Print k ([(T_api_Field.mk ([67, 111, 110, 116, 101, 110, 116, 45, 73, 68] : Str) ([60, 97, 64, 98, 62] : Str))] : List T_api_Field)).bind fun (t1 : Str × Int) => (if t1.1.length + ([120] : Str).length ≤ 9223372036854775807 then ((field_Parse k (t1.1 ++ ([120] : Str))).bind fun (t4 : (List T_api_Field) × Str × Int) => ((field_ParseType k ([84, 101, 120, 116, 47, 88, 77, 76, 59, 32, 97, 61, 34, 98, 92, 34, 99, 34] : Str)).bind fun (t6 : Str × (List T_api_Field) × Int) => (if (((((((((t1.1 == ([67, 111, 110, 116, 101, 110, 116, 45, 73, 68, 58, 32, 60, 97, 64, 98, 62, 13, 10, 13, 10] : Str)) && (t1.2 == 0)) && ((t4.1.length : Int) == 1)) && (t4.2.1 == ([120] : Str))) && (t4.2.2 == 0)) && (t6.1 == ([116, 101, 120, 116, 47, 120, 109, 108] : Str))) && ((t6.2.1.length : Int) == 1)) == true) = true → (0 : Int) ≤ 0 ∧ 0 < (t6.2.1.length : Int)) then (((if ((((((((((t1.1 == ([67, 111, 110, 116, 101, 110, 116, 45, 73, 68, 58, 32, 60, 97, 64, 98, 62, 13, 10, 13, 10] : Str)) && (t1.2 == 0)) && ((t4.1.length : Int) == 1)) && (t4.2.1 == ([120] : Str))) && (t4.2.2 == 0)) && (t6.1 == ([116, 101, 120, 116, 47, 120, 109, 108] : Str))) && ((t6.2.1.length : Int) == 1)) && (((rd t6.2.1 0).Value) == ([98, 34, 99] : Str))) && (t6.2.2 == 0)) == true) = true then field_Token k ([97, 46, 98] : Str) else some default)).bind fun (t26 : Bool) => (((if (((((((((((t1.1 == ([67, 111, 110, 116, 101, 110, 116, 45, 73, 68, 58, 32, 60, 97, 64, 98, 62, 13, 10, 13, 10] : Str)) && (t1.2 == 0)) && ((t4.1.length : Int) == 1)) && (t4.2.1 == ([120] : Str))) && (t4.2.2 == 0)) && (t6.1 == ([116, 101, 120, 116, 47, 120, 109, 108] : Str))) && ((t6.2.1.length : Int) == 1)) && (((rd t6.2.1 0).Value) == ([98, 34, 99] : Str))) && (t6.2.2 == 0)) && t26) == true) = true then field_Token k ([97, 47, 98] : Str) else some default)).bind fun (t30 : Bool) => some (((((((((((t1.1 == ([67, 111, 110, 116, 101, 110, 116, 45, 73, 68, 58, 32, 60, 97, 64, 98, 62, 13, 10, 13, 10] : Str)) && (t1.2 == 0)) && ((t4.1.length : Int) == 1)) && (t4.2.1 == ([120] : Str))) && (t4.2.2 == 0)) && (t6.1 == ([116, 101, 120, 116, 47, 120, 109, 108] : Str))) && ((t6.2.1.length : Int) == 1)) && (((rd t6.2.1 0).Value) == ([98, 34, 99] : Str))) && (t6.2.2 == 0)) && t26) && (!t30)))) else none))) else none))
theorem watchbilllaw07_awake.ok {k : Nat} {r : Bool} (H : watchbilllaw07_awake k = some r) : Vx.Fn Tryd.prog 8 [] [] (.v (.bool r)) [] := by
  unfold watchbilllaw07_awake at H
  refine Vx.Fn.of_okR Tryd.func8 rfl (Nat.le_of_ble_eq_true rfl) ?_
  refine Ok.seq ?_
  refine Ok.region (σ' := ⟨[], []⟩) ?_ ?_
  · refine .cv (VOk.asg (d := (.v (.bool false))) rfl rfl) rfl rfl ?_
    exact .done (.rf rfl rfl)
  refine Ok.seq ?_
  obtain ⟨t1, h2, H⟩ := bindE H
  refine Ok.region (σ' := ⟨[(1, (S t1.1)), (2, (.v (.int .i64 t1.2)))], []⟩) ?_ ?_
  · refine .cv (VOk.to (d' := (.agg (e_api_Field (T_api_Field.mk ([67, 111, 110, 116, 101, 110, 116, 45, 73, 68] : Str) ([60, 97, 64, 98, 62] : Str))))) (.build [none, none] [(0, 1), (1, 1)] rfl Tryd.underlying34 (fa34 Tryd.underlying34) zo34 rfl rfl) rfl) rfl rfl ?_
    refine .cg (GOk.to (d' := (L 2 e_api_Field ([(T_api_Field.mk ([67, 111, 110, 116, 101, 110, 116, 45, 73, 68] : Str) ([60, 97, 64, 98, 62] : Str))] : List T_api_Field))) (GOk.lit rfl Tryd.underlying22 sz34 zs34 rfl rfl rfl rfl) rfl) rfl rfl ?_
    refine .cg (GOk.call rfl rfl cl10 rfl (field_Print.ok h2) rfl) rfl rfl ?_
    refine .cv (VOk.mv (d := (.tup [(S t1.1), (.v (.int .i64 t1.2))])) rfl rfl) rfl rfl ?_
    refine .cv (VOk.extract (d := (S t1.1)) rfl rfl rfl) rfl rfl ?_
    refine .cv (VOk.extract (d := (.v (.int .i64 t1.2))) rfl rfl rfl) rfl rfl ?_
    refine .cv (VOk.asg (d := (S t1.1)) rfl rfl) rfl rfl ?_
    refine .cv (VOk.asg (d := (.v (.int .i64 t1.2))) rfl rfl) rfl rfl ?_
    exact .done (.rf rfl rfl)
  refine Ok.seq ?_
  obtain ⟨c3, H⟩ := assertE H
  obtain ⟨t4, h5, H⟩ := bindE H
  refine Ok.region (σ' := ⟨[(1, (S t1.1)), (2, (.v (.int .i64 t1.2))), (3, (L 2 e_api_Field t4.1)), (4, (S t4.2.1)), (5, (.v (.int .i64 t4.2.2)))], []⟩) ?_ ?_
  · refine .cv (VOk.mv (d := (S t1.1)) rfl rfl) rfl rfl ?_
    refine .cv (VOk.cat (a := t1.1) (b := ([120] : Str)) rfl rfl rfl c3) rfl rfl ?_
    refine .cg (GOk.call rfl rfl cl11 rfl (field_Parse.ok h5) rfl) rfl rfl ?_
    refine .cv (VOk.mv (d := (.tup [(L 2 e_api_Field t4.1), (S t4.2.1), (.v (.int .i64 t4.2.2))])) rfl rfl) rfl rfl ?_
    refine .cv (VOk.extract (d := (L 2 e_api_Field t4.1)) rfl rfl rfl) rfl rfl ?_
    refine .cv (VOk.extract (d := (S t4.2.1)) rfl rfl rfl) rfl rfl ?_
    refine .cv (VOk.extract (d := (.v (.int .i64 t4.2.2))) rfl rfl rfl) rfl rfl ?_
    refine .cv (VOk.asg (d := (L 2 e_api_Field t4.1)) rfl rfl) rfl rfl ?_
    refine .cv (VOk.asg (d := (S t4.2.1)) rfl rfl) rfl rfl ?_
    refine .cv (VOk.asg (d := (.v (.int .i64 t4.2.2))) rfl rfl) rfl rfl ?_
    exact .done (.rf rfl rfl)
  refine Ok.seq ?_
  obtain ⟨t6, h7, H⟩ := bindE H
  refine Ok.region (σ' := ⟨[(1, (S t1.1)), (2, (.v (.int .i64 t1.2))), (3, (L 2 e_api_Field t4.1)), (4, (S t4.2.1)), (5, (.v (.int .i64 t4.2.2))), (6, (S t6.1)), (7, (L 2 e_api_Field t6.2.1)), (8, (.v (.int .i64 t6.2.2)))], []⟩) ?_ ?_
  · refine .cg (GOk.call rfl rfl cl21 rfl (field_ParseType.ok h7) rfl) rfl rfl ?_
    refine .cv (VOk.mv (d := (.tup [(S t6.1), (L 2 e_api_Field t6.2.1), (.v (.int .i64 t6.2.2))])) rfl rfl) rfl rfl ?_
    refine .cv (VOk.extract (d := (S t6.1)) rfl rfl rfl) rfl rfl ?_
    refine .cv (VOk.extract (d := (L 2 e_api_Field t6.2.1)) rfl rfl rfl) rfl rfl ?_
    refine .cv (VOk.extract (d := (.v (.int .i64 t6.2.2))) rfl rfl rfl) rfl rfl ?_
    refine .cv (VOk.asg (d := (S t6.1)) rfl rfl) rfl rfl ?_
    refine .cv (VOk.asg (d := (L 2 e_api_Field t6.2.1)) rfl rfl) rfl rfl ?_
    refine .cv (VOk.asg (d := (.v (.int .i64 t6.2.2))) rfl rfl) rfl rfl ?_
    exact .done (.rf rfl rfl)
  refine Ok.seq ?_
  obtain ⟨c21, H⟩ := assertE H
  obtain ⟨t26, h27, H⟩ := bindE H
  obtain ⟨t30, h31, H⟩ := bindE H
  refine Ok.region (σ' := ⟨[(0, (.v (.bool (((((((((((t1.1 == ([67, 111, 110, 116, 101, 110, 116, 45, 73, 68, 58, 32, 60, 97, 64, 98, 62, 13, 10, 13, 10] : Str)) && (t1.2 == 0)) && ((t4.1.length : Int) == 1)) && (t4.2.1 == ([120] : Str))) && (t4.2.2 == 0)) && (t6.1 == ([116, 101, 120, 116, 47, 120, 109, 108] : Str))) && ((t6.2.1.length : Int) == 1)) && (((rd t6.2.1 0).Value) == ([98, 34, 99] : Str))) && (t6.2.2 == 0)) && t26) && (!t30)))))], []⟩) ?_ ?_
  · refine .cv (VOk.mv (d := (S t1.1)) rfl rfl) rfl rfl ?_
    refine .cv (VOk.strOp (op := .eql) (a := t1.1) (b := ([67, 111, 110, 116, 101, 110, 116, 45, 73, 68, 58, 32, 60, 97, 64, 98, 62, 13, 10, 13, 10] : Str)) rfl rfl rfl rfl) rfl rfl ?_
    refine .cv (VOk.mv (d := (.v (.bool (t1.1 == ([67, 111, 110, 116, 101, 110, 116, 45, 73, 68, 58, 32, 60, 97, 64, 98, 62, 13, 10, 13, 10] : Str))))) rfl rfl) rfl rfl ?_
    refine OpsOk.consI rfl rfl rfl (.one rfl) rfl (fun hw8 => (VOk.g (VOk.mv (d := (.v (.int .i64 t1.2))) rfl rfl))) ?_
    refine OpsOk.consI rfl rfl rfl (.one rfl) rfl (fun hw8 => (GOk.fr (fr' := [(30, (.v (.int .i64 t1.2)))]) ⟨DLe.of_eq (cT hw8).symm, trivial⟩ (VOk.g (VOk.arith (op := .eql) (k := .i64) (a := t1.2) (b := 0) rfl rfl rfl rfl)))) ?_
    refine .cv (VOk.to (VOk.pickI (b := (t1.1 == ([67, 111, 110, 116, 101, 110, 116, 45, 73, 68, 58, 32, 60, 97, 64, 98, 62, 13, 10, 13, 10] : Str))) (p := (t1.2 == 0)) (q := false) rfl rfl (fun hp9 => (cT (t_beq hp9))) (fun hp9 => rfl)) (pickAnd (t1.1 == ([67, 111, 110, 116, 101, 110, 116, 45, 73, 68, 58, 32, 60, 97, 64, 98, 62, 13, 10, 13, 10] : Str)) (t1.2 == 0))) rfl rfl ?_
    refine .cv (VOk.mv (d := (.v (.bool ((t1.1 == ([67, 111, 110, 116, 101, 110, 116, 45, 73, 68, 58, 32, 60, 97, 64, 98, 62, 13, 10, 13, 10] : Str)) && (t1.2 == 0))))) rfl rfl) rfl rfl ?_
    refine OpsOk.consI rfl rfl rfl (.one rfl) rfl (fun hw10 => (VOk.g (VOk.mv (d := (L 2 e_api_Field t4.1)) rfl rfl))) ?_
    refine OpsOk.consI rfl rfl rfl (.one rfl) rfl (fun hw10 => (GOk.fr (fr' := [(34, (L 2 e_api_Field t4.1))]) ⟨DLe.of_eq (cT hw10).symm, trivial⟩ (VOk.g (VOk.lenL (e := e_api_Field) (xs := t4.1) rfl Tryd.underlying22 rfl)))) ?_
    refine OpsOk.consI rfl rfl rfl (.one rfl) rfl (fun hw10 => (GOk.fr (fr' := [(35, (.v (.int .i64 (t4.1.length : Int))))]) ⟨DLe.of_eq (cT hw10).symm, trivial⟩ (VOk.g (VOk.arith (op := .eql) (k := .i64) (a := (t4.1.length : Int)) (b := 1) rfl rfl rfl rfl)))) ?_
    refine .cv (VOk.to (VOk.pickI (b := ((t1.1 == ([67, 111, 110, 116, 101, 110, 116, 45, 73, 68, 58, 32, 60, 97, 64, 98, 62, 13, 10, 13, 10] : Str)) && (t1.2 == 0))) (p := ((t4.1.length : Int) == 1)) (q := false) rfl rfl (fun hp11 => (cT (t_beq hp11))) (fun hp11 => rfl)) (pickAnd ((t1.1 == ([67, 111, 110, 116, 101, 110, 116, 45, 73, 68, 58, 32, 60, 97, 64, 98, 62, 13, 10, 13, 10] : Str)) && (t1.2 == 0)) ((t4.1.length : Int) == 1))) rfl rfl ?_
    refine .cv (VOk.mv (d := (.v (.bool (((t1.1 == ([67, 111, 110, 116, 101, 110, 116, 45, 73, 68, 58, 32, 60, 97, 64, 98, 62, 13, 10, 13, 10] : Str)) && (t1.2 == 0)) && ((t4.1.length : Int) == 1))))) rfl rfl) rfl rfl ?_
    refine OpsOk.consI rfl rfl rfl (.one rfl) rfl (fun hw12 => (VOk.g (VOk.mv (d := (S t4.2.1)) rfl rfl))) ?_
    refine OpsOk.consI rfl rfl rfl (.one rfl) rfl (fun hw12 => (GOk.fr (fr' := [(39, (S t4.2.1))]) ⟨DLe.of_eq (cT hw12).symm, trivial⟩ (VOk.g (VOk.strOp (op := .eql) (a := t4.2.1) (b := ([120] : Str)) rfl rfl rfl rfl)))) ?_
    refine .cv (VOk.to (VOk.pickI (b := (((t1.1 == ([67, 111, 110, 116, 101, 110, 116, 45, 73, 68, 58, 32, 60, 97, 64, 98, 62, 13, 10, 13, 10] : Str)) && (t1.2 == 0)) && ((t4.1.length : Int) == 1))) (p := (t4.2.1 == ([120] : Str))) (q := false) rfl rfl (fun hp13 => (cT (t_beq hp13))) (fun hp13 => rfl)) (pickAnd (((t1.1 == ([67, 111, 110, 116, 101, 110, 116, 45, 73, 68, 58, 32, 60, 97, 64, 98, 62, 13, 10, 13, 10] : Str)) && (t1.2 == 0)) && ((t4.1.length : Int) == 1)) (t4.2.1 == ([120] : Str)))) rfl rfl ?_
    refine .cv (VOk.mv (d := (.v (.bool ((((t1.1 == ([67, 111, 110, 116, 101, 110, 116, 45, 73, 68, 58, 32, 60, 97, 64, 98, 62, 13, 10, 13, 10] : Str)) && (t1.2 == 0)) && ((t4.1.length : Int) == 1)) && (t4.2.1 == ([120] : Str)))))) rfl rfl) rfl rfl ?_
    refine OpsOk.consI rfl rfl rfl (.one rfl) rfl (fun hw14 => (VOk.g (VOk.mv (d := (.v (.int .i64 t4.2.2))) rfl rfl))) ?_
    refine OpsOk.consI rfl rfl rfl (.one rfl) rfl (fun hw14 => (GOk.fr (fr' := [(43, (.v (.int .i64 t4.2.2)))]) ⟨DLe.of_eq (cT hw14).symm, trivial⟩ (VOk.g (VOk.arith (op := .eql) (k := .i64) (a := t4.2.2) (b := 0) rfl rfl rfl rfl)))) ?_
    refine .cv (VOk.to (VOk.pickI (b := ((((t1.1 == ([67, 111, 110, 116, 101, 110, 116, 45, 73, 68, 58, 32, 60, 97, 64, 98, 62, 13, 10, 13, 10] : Str)) && (t1.2 == 0)) && ((t4.1.length : Int) == 1)) && (t4.2.1 == ([120] : Str)))) (p := (t4.2.2 == 0)) (q := false) rfl rfl (fun hp15 => (cT (t_beq hp15))) (fun hp15 => rfl)) (pickAnd ((((t1.1 == ([67, 111, 110, 116, 101, 110, 116, 45, 73, 68, 58, 32, 60, 97, 64, 98, 62, 13, 10, 13, 10] : Str)) && (t1.2 == 0)) && ((t4.1.length : Int) == 1)) && (t4.2.1 == ([120] : Str))) (t4.2.2 == 0))) rfl rfl ?_
    refine .cv (VOk.mv (d := (.v (.bool (((((t1.1 == ([67, 111, 110, 116, 101, 110, 116, 45, 73, 68, 58, 32, 60, 97, 64, 98, 62, 13, 10, 13, 10] : Str)) && (t1.2 == 0)) && ((t4.1.length : Int) == 1)) && (t4.2.1 == ([120] : Str))) && (t4.2.2 == 0))))) rfl rfl) rfl rfl ?_
    refine OpsOk.consI rfl rfl rfl (.one rfl) rfl (fun hw16 => (VOk.g (VOk.mv (d := (S t6.1)) rfl rfl))) ?_
    refine OpsOk.consI rfl rfl rfl (.one rfl) rfl (fun hw16 => (GOk.fr (fr' := [(47, (S t6.1))]) ⟨DLe.of_eq (cT hw16).symm, trivial⟩ (VOk.g (VOk.strOp (op := .eql) (a := t6.1) (b := ([116, 101, 120, 116, 47, 120, 109, 108] : Str)) rfl rfl rfl rfl)))) ?_
    refine .cv (VOk.to (VOk.pickI (b := (((((t1.1 == ([67, 111, 110, 116, 101, 110, 116, 45, 73, 68, 58, 32, 60, 97, 64, 98, 62, 13, 10, 13, 10] : Str)) && (t1.2 == 0)) && ((t4.1.length : Int) == 1)) && (t4.2.1 == ([120] : Str))) && (t4.2.2 == 0))) (p := (t6.1 == ([116, 101, 120, 116, 47, 120, 109, 108] : Str))) (q := false) rfl rfl (fun hp17 => (cT (t_beq hp17))) (fun hp17 => rfl)) (pickAnd (((((t1.1 == ([67, 111, 110, 116, 101, 110, 116, 45, 73, 68, 58, 32, 60, 97, 64, 98, 62, 13, 10, 13, 10] : Str)) && (t1.2 == 0)) && ((t4.1.length : Int) == 1)) && (t4.2.1 == ([120] : Str))) && (t4.2.2 == 0)) (t6.1 == ([116, 101, 120, 116, 47, 120, 109, 108] : Str)))) rfl rfl ?_
    refine .cv (VOk.mv (d := (.v (.bool ((((((t1.1 == ([67, 111, 110, 116, 101, 110, 116, 45, 73, 68, 58, 32, 60, 97, 64, 98, 62, 13, 10, 13, 10] : Str)) && (t1.2 == 0)) && ((t4.1.length : Int) == 1)) && (t4.2.1 == ([120] : Str))) && (t4.2.2 == 0)) && (t6.1 == ([116, 101, 120, 116, 47, 120, 109, 108] : Str)))))) rfl rfl) rfl rfl ?_
    refine OpsOk.consI rfl rfl rfl (.one rfl) rfl (fun hw18 => (VOk.g (VOk.mv (d := (L 2 e_api_Field t6.2.1)) rfl rfl))) ?_
    refine OpsOk.consI rfl rfl rfl (.one rfl) rfl (fun hw18 => (GOk.fr (fr' := [(51, (L 2 e_api_Field t6.2.1))]) ⟨DLe.of_eq (cT hw18).symm, trivial⟩ (VOk.g (VOk.lenL (e := e_api_Field) (xs := t6.2.1) rfl Tryd.underlying42 rfl)))) ?_
    refine OpsOk.consI rfl rfl rfl (.one rfl) rfl (fun hw18 => (GOk.fr (fr' := [(52, (.v (.int .i64 (t6.2.1.length : Int))))]) ⟨DLe.of_eq (cT hw18).symm, trivial⟩ (VOk.g (VOk.arith (op := .eql) (k := .i64) (a := (t6.2.1.length : Int)) (b := 1) rfl rfl rfl rfl)))) ?_
    refine .cv (VOk.to (VOk.pickI (b := ((((((t1.1 == ([67, 111, 110, 116, 101, 110, 116, 45, 73, 68, 58, 32, 60, 97, 64, 98, 62, 13, 10, 13, 10] : Str)) && (t1.2 == 0)) && ((t4.1.length : Int) == 1)) && (t4.2.1 == ([120] : Str))) && (t4.2.2 == 0)) && (t6.1 == ([116, 101, 120, 116, 47, 120, 109, 108] : Str)))) (p := ((t6.2.1.length : Int) == 1)) (q := false) rfl rfl (fun hp19 => (cT (t_beq hp19))) (fun hp19 => rfl)) (pickAnd ((((((t1.1 == ([67, 111, 110, 116, 101, 110, 116, 45, 73, 68, 58, 32, 60, 97, 64, 98, 62, 13, 10, 13, 10] : Str)) && (t1.2 == 0)) && ((t4.1.length : Int) == 1)) && (t4.2.1 == ([120] : Str))) && (t4.2.2 == 0)) && (t6.1 == ([116, 101, 120, 116, 47, 120, 109, 108] : Str))) ((t6.2.1.length : Int) == 1))) rfl rfl ?_
    refine .cv (VOk.mv (d := (.v (.bool (((((((t1.1 == ([67, 111, 110, 116, 101, 110, 116, 45, 73, 68, 58, 32, 60, 97, 64, 98, 62, 13, 10, 13, 10] : Str)) && (t1.2 == 0)) && ((t4.1.length : Int) == 1)) && (t4.2.1 == ([120] : Str))) && (t4.2.2 == 0)) && (t6.1 == ([116, 101, 120, 116, 47, 120, 109, 108] : Str))) && ((t6.2.1.length : Int) == 1))))) rfl rfl) rfl rfl ?_
    refine OpsOk.consI rfl rfl rfl (.one rfl) rfl (fun hw20 => (VOk.g (VOk.mv (d := (L 2 e_api_Field t6.2.1)) rfl rfl))) ?_
    refine OpsOk.consI rfl rfl rfl (.one rfl) rfl (fun hw20 => (GOk.fr (fr' := [(56, (L 2 e_api_Field t6.2.1))]) ⟨DLe.of_eq (cT hw20).symm, trivial⟩ (VOk.g (VOk.indexL (sz := 2) (e := e_api_Field) (xs := t6.2.1) (i := 0) rfl Tryd.underlying42 sz54 rfl rfl (c21 hw20))))) ?_
    refine OpsOk.consI rfl rfl rfl (.one rfl) rfl (fun hw20 => (GOk.fr (fr' := [(57, (.fp (e_api_Field (rd t6.2.1 0)) 0))]) ⟨DLe.of_eq (cT hw20).symm, trivial⟩ (VOk.g (VOk.to (VOk.fieldFp rfl Tryd.underlying54 rfl sz9 rfl) rfl)))) ?_
    refine OpsOk.consI rfl rfl rfl (.one rfl) rfl (fun hw20 => (GOk.fr (fr' := [(58, (.fp (e_api_Field (rd t6.2.1 0)) 1))]) ⟨DLe.of_eq (cT hw20).symm, trivial⟩ (VOk.g (VOk.loadFp (d := (S ((rd t6.2.1 0).Value))) rfl Tryd.underlying9 rfl rfl rfl)))) ?_
    refine OpsOk.consI rfl rfl rfl (.one rfl) rfl (fun hw20 => (GOk.fr (fr' := [(59, (S ((rd t6.2.1 0).Value)))]) ⟨DLe.of_eq (cT hw20).symm, trivial⟩ (VOk.g (VOk.strOp (op := .eql) (a := (rd t6.2.1 0).Value) (b := ([98, 34, 99] : Str)) rfl rfl rfl rfl)))) ?_
    refine .cv (VOk.to (VOk.pickI (b := (((((((t1.1 == ([67, 111, 110, 116, 101, 110, 116, 45, 73, 68, 58, 32, 60, 97, 64, 98, 62, 13, 10, 13, 10] : Str)) && (t1.2 == 0)) && ((t4.1.length : Int) == 1)) && (t4.2.1 == ([120] : Str))) && (t4.2.2 == 0)) && (t6.1 == ([116, 101, 120, 116, 47, 120, 109, 108] : Str))) && ((t6.2.1.length : Int) == 1))) (p := (((rd t6.2.1 0).Value) == ([98, 34, 99] : Str))) (q := false) rfl rfl (fun hp22 => (cT (t_beq hp22))) (fun hp22 => rfl)) (pickAnd (((((((t1.1 == ([67, 111, 110, 116, 101, 110, 116, 45, 73, 68, 58, 32, 60, 97, 64, 98, 62, 13, 10, 13, 10] : Str)) && (t1.2 == 0)) && ((t4.1.length : Int) == 1)) && (t4.2.1 == ([120] : Str))) && (t4.2.2 == 0)) && (t6.1 == ([116, 101, 120, 116, 47, 120, 109, 108] : Str))) && ((t6.2.1.length : Int) == 1)) (((rd t6.2.1 0).Value) == ([98, 34, 99] : Str)))) rfl rfl ?_
    refine .cv (VOk.mv (d := (.v (.bool ((((((((t1.1 == ([67, 111, 110, 116, 101, 110, 116, 45, 73, 68, 58, 32, 60, 97, 64, 98, 62, 13, 10, 13, 10] : Str)) && (t1.2 == 0)) && ((t4.1.length : Int) == 1)) && (t4.2.1 == ([120] : Str))) && (t4.2.2 == 0)) && (t6.1 == ([116, 101, 120, 116, 47, 120, 109, 108] : Str))) && ((t6.2.1.length : Int) == 1)) && (((rd t6.2.1 0).Value) == ([98, 34, 99] : Str)))))) rfl rfl) rfl rfl ?_
    refine OpsOk.consI rfl rfl rfl (.one rfl) rfl (fun hw23 => (VOk.g (VOk.mv (d := (.v (.int .i64 t6.2.2))) rfl rfl))) ?_
    refine OpsOk.consI rfl rfl rfl (.one rfl) rfl (fun hw23 => (GOk.fr (fr' := [(63, (.v (.int .i64 t6.2.2)))]) ⟨DLe.of_eq (cT hw23).symm, trivial⟩ (VOk.g (VOk.arith (op := .eql) (k := .i64) (a := t6.2.2) (b := 0) rfl rfl rfl rfl)))) ?_
    refine .cv (VOk.to (VOk.pickI (b := ((((((((t1.1 == ([67, 111, 110, 116, 101, 110, 116, 45, 73, 68, 58, 32, 60, 97, 64, 98, 62, 13, 10, 13, 10] : Str)) && (t1.2 == 0)) && ((t4.1.length : Int) == 1)) && (t4.2.1 == ([120] : Str))) && (t4.2.2 == 0)) && (t6.1 == ([116, 101, 120, 116, 47, 120, 109, 108] : Str))) && ((t6.2.1.length : Int) == 1)) && (((rd t6.2.1 0).Value) == ([98, 34, 99] : Str)))) (p := (t6.2.2 == 0)) (q := false) rfl rfl (fun hp24 => (cT (t_beq hp24))) (fun hp24 => rfl)) (pickAnd ((((((((t1.1 == ([67, 111, 110, 116, 101, 110, 116, 45, 73, 68, 58, 32, 60, 97, 64, 98, 62, 13, 10, 13, 10] : Str)) && (t1.2 == 0)) && ((t4.1.length : Int) == 1)) && (t4.2.1 == ([120] : Str))) && (t4.2.2 == 0)) && (t6.1 == ([116, 101, 120, 116, 47, 120, 109, 108] : Str))) && ((t6.2.1.length : Int) == 1)) && (((rd t6.2.1 0).Value) == ([98, 34, 99] : Str))) (t6.2.2 == 0))) rfl rfl ?_
    refine .cv (VOk.mv (d := (.v (.bool (((((((((t1.1 == ([67, 111, 110, 116, 101, 110, 116, 45, 73, 68, 58, 32, 60, 97, 64, 98, 62, 13, 10, 13, 10] : Str)) && (t1.2 == 0)) && ((t4.1.length : Int) == 1)) && (t4.2.1 == ([120] : Str))) && (t4.2.2 == 0)) && (t6.1 == ([116, 101, 120, 116, 47, 120, 109, 108] : Str))) && ((t6.2.1.length : Int) == 1)) && (((rd t6.2.1 0).Value) == ([98, 34, 99] : Str))) && (t6.2.2 == 0))))) rfl rfl) rfl rfl ?_
    refine OpsOk.consI rfl rfl rfl (.one rfl) rfl (fun hw25 => (GOk.call rfl rfl cl16 rfl (field_Token.ok (ifT h27 hw25)) rfl)) ?_
    refine .cv (VOk.to (VOk.pickI (b := (((((((((t1.1 == ([67, 111, 110, 116, 101, 110, 116, 45, 73, 68, 58, 32, 60, 97, 64, 98, 62, 13, 10, 13, 10] : Str)) && (t1.2 == 0)) && ((t4.1.length : Int) == 1)) && (t4.2.1 == ([120] : Str))) && (t4.2.2 == 0)) && (t6.1 == ([116, 101, 120, 116, 47, 120, 109, 108] : Str))) && ((t6.2.1.length : Int) == 1)) && (((rd t6.2.1 0).Value) == ([98, 34, 99] : Str))) && (t6.2.2 == 0))) (p := t26) (q := false) rfl rfl (fun hp28 => (cT (t_beq hp28))) (fun hp28 => rfl)) (pickAnd (((((((((t1.1 == ([67, 111, 110, 116, 101, 110, 116, 45, 73, 68, 58, 32, 60, 97, 64, 98, 62, 13, 10, 13, 10] : Str)) && (t1.2 == 0)) && ((t4.1.length : Int) == 1)) && (t4.2.1 == ([120] : Str))) && (t4.2.2 == 0)) && (t6.1 == ([116, 101, 120, 116, 47, 120, 109, 108] : Str))) && ((t6.2.1.length : Int) == 1)) && (((rd t6.2.1 0).Value) == ([98, 34, 99] : Str))) && (t6.2.2 == 0)) t26)) rfl rfl ?_
    refine .cv (VOk.mv (d := (.v (.bool ((((((((((t1.1 == ([67, 111, 110, 116, 101, 110, 116, 45, 73, 68, 58, 32, 60, 97, 64, 98, 62, 13, 10, 13, 10] : Str)) && (t1.2 == 0)) && ((t4.1.length : Int) == 1)) && (t4.2.1 == ([120] : Str))) && (t4.2.2 == 0)) && (t6.1 == ([116, 101, 120, 116, 47, 120, 109, 108] : Str))) && ((t6.2.1.length : Int) == 1)) && (((rd t6.2.1 0).Value) == ([98, 34, 99] : Str))) && (t6.2.2 == 0)) && t26)))) rfl rfl) rfl rfl ?_
    refine OpsOk.consI rfl rfl rfl (.one rfl) rfl (fun hw29 => (GOk.call rfl rfl cl16 rfl (field_Token.ok (ifT h31 hw29)) rfl)) ?_
    refine OpsOk.consI rfl rfl rfl (.one rfl) rfl (fun hw29 => (GOk.fr (fr' := [(70, (.v (.bool t30)))]) ⟨DLe.of_eq (cT hw29).symm, trivial⟩ (VOk.g (VOk.not (b := t30) rfl rfl)))) ?_
    refine .cv (VOk.to (VOk.pickI (b := ((((((((((t1.1 == ([67, 111, 110, 116, 101, 110, 116, 45, 73, 68, 58, 32, 60, 97, 64, 98, 62, 13, 10, 13, 10] : Str)) && (t1.2 == 0)) && ((t4.1.length : Int) == 1)) && (t4.2.1 == ([120] : Str))) && (t4.2.2 == 0)) && (t6.1 == ([116, 101, 120, 116, 47, 120, 109, 108] : Str))) && ((t6.2.1.length : Int) == 1)) && (((rd t6.2.1 0).Value) == ([98, 34, 99] : Str))) && (t6.2.2 == 0)) && t26)) (p := (!t30)) (q := false) rfl rfl (fun hp32 => (cT (t_beq hp32))) (fun hp32 => rfl)) (pickAnd ((((((((((t1.1 == ([67, 111, 110, 116, 101, 110, 116, 45, 73, 68, 58, 32, 60, 97, 64, 98, 62, 13, 10, 13, 10] : Str)) && (t1.2 == 0)) && ((t4.1.length : Int) == 1)) && (t4.2.1 == ([120] : Str))) && (t4.2.2 == 0)) && (t6.1 == ([116, 101, 120, 116, 47, 120, 109, 108] : Str))) && ((t6.2.1.length : Int) == 1)) && (((rd t6.2.1 0).Value) == ([98, 34, 99] : Str))) && (t6.2.2 == 0)) && t26) (!t30))) rfl rfl ?_
    refine .cv (VOk.asg (d := (.v (.bool (((((((((((t1.1 == ([67, 111, 110, 116, 101, 110, 116, 45, 73, 68, 58, 32, 60, 97, 64, 98, 62, 13, 10, 13, 10] : Str)) && (t1.2 == 0)) && ((t4.1.length : Int) == 1)) && (t4.2.1 == ([120] : Str))) && (t4.2.2 == 0)) && (t6.1 == ([116, 101, 120, 116, 47, 120, 109, 108] : Str))) && ((t6.2.1.length : Int) == 1)) && (((rd t6.2.1 0).Value) == ([98, 34, 99] : Str))) && (t6.2.2 == 0)) && t26) && (!t30))))) rfl rfl) rfl rfl ?_
    exact .done (.rf rfl rfl)
  refine Ok.ret ?_
  obtain rfl := Option.some.inj H
  exact ⟨.inl rfl, ⟨_, (.cons (.tmp rfl) .nil), rfl⟩, trivial⟩

/-! watchbill/watchbilllaw07.FewParams: function 18 -/
def watchbilllaw07_FewParams.l0 (k : Nat) (a0 : List T_api_Field) : Nat → Int → Int → Option Bool
  | 0, _, _ => none
  | m5 + 1, x3_1, x4_2 => (if ((decide (x4_2 < (a0.length : Int))) && (decide (x3_1 < 5000))) = true then (if (0 : Int) ≤ x4_2 ∧ x4_2 < (a0.length : Int) then (if (0 : Int) ≤ x4_2 ∧ x4_2 < (a0.length : Int) then watchbilllaw07_FewParams.l0 k a0 m5 (IntKind.i64.wrap ((IntKind.i64.wrap (x3_1 + (if 5000 < (((rd a0 x4_2).Name).length : Int) then 5000 else (((rd a0 x4_2).Name).length : Int)))) + (if 5000 < (((rd a0 x4_2).Value).length : Int) then 5000 else (((rd a0 x4_2).Value).length : Int)))) (IntKind.i64.wrap (x4_2 + 1)) else none) else none) else some (decide (x3_1 < 5000)))
def watchbilllaw07_FewParams (k : Nat) (a0 : List T_api_Field) : Option Bool := watchbilllaw07_FewParams.l0 k a0 k (if 5000 < (a0.length : Int) then 5000 else (a0.length : Int)) 0
theorem watchbilllaw07_FewParams.ok {k : Nat} {a0 : List T_api_Field} {r : Bool} (H : watchbilllaw07_FewParams k a0 = some r) : Vx.Fn Tryd.prog 18 [(L 2 e_api_Field a0)] [] (.v (.bool r)) [] := by
  unfold watchbilllaw07_FewParams at H
  refine Vx.Fn.of_okR Tryd.func18 rfl (Nat.le_of_ble_eq_true rfl) ?_
  refine Ok.seq ?_
  refine Ok.region (σ' := ⟨[(0, (L 2 e_api_Field a0))], []⟩) ?_ ?_
  · refine .cv (VOk.asg (d := (.v (.bool false))) rfl rfl) rfl rfl ?_
    exact .done (.rf rfl rfl)
  refine Ok.seq ?_
  refine Ok.region (σ' := ⟨[(0, (L 2 e_api_Field a0)), (3, (.v (.int .i64 (if 5000 < (a0.length : Int) then 5000 else (a0.length : Int)))))], []⟩) ?_ ?_
  · refine .cv (VOk.mv (d := (L 2 e_api_Field a0)) rfl rfl) rfl rfl ?_
    refine .cv (VOk.lenL (e := e_api_Field) (xs := a0) rfl Tryd.underlying42 rfl) rfl rfl ?_
    refine .cv (VOk.min2 (a := (a0.length : Int)) (b := 5000) rfl rfl rfl) rfl rfl ?_
    refine .cv (VOk.asg (d := (.v (.int .i64 (if 5000 < (a0.length : Int) then 5000 else (a0.length : Int))))) rfl rfl) rfl rfl ?_
    exact .done (.rf rfl rfl)
  refine Ok.seq ?_
  refine Ok.seq ?_
  refine Ok.region (σ' := ⟨[(0, (L 2 e_api_Field a0)), (3, (.v (.int .i64 (if 5000 < (a0.length : Int) then 5000 else (a0.length : Int))))), (4, (.v (.int .i64 0)))], []⟩) ?_ ?_
  · refine .cv (VOk.asg (d := (.v (.int .i64 0))) rfl rfl) rfl rfl ?_
    exact .done (.rf rfl rfl)
  refine Ok.block ?_
  refine Ok.le (σ' := ⟨[(0, (L 2 e_api_Field a0)), (3, (.v (.int .i64 (if 5000 < (a0.length : Int) then 5000 else (a0.length : Int))))), (4, (.v (.int .i64 0)))], []⟩) (.rf rfl rfl) ?_
  refine Ok.loop (fun m5 σ => ∃ (x3_1 : Int) (x4_2 : Int), σ = ⟨[(0, (L 2 e_api_Field a0)), (3, (.v (.int .i64 x3_1))), (4, (.v (.int .i64 x4_2)))], []⟩ ∧ watchbilllaw07_FewParams.l0 k a0 m5 x3_1 x4_2 = some r) k ⟨(if 5000 < (a0.length : Int) then 5000 else (a0.length : Int)), 0, rfl, H⟩ ?_
  rintro m5 σ ⟨x3_1, x4_2, rfl, H⟩
  cases m5 with
  | zero => exact absurd H (by simp [watchbilllaw07_FewParams.l0])
  | succ m5 =>
    unfold watchbilllaw07_FewParams.l0 at H
    refine Ok.seq ?_
    refine Ok.seq ?_
    refine Ok.region (σ' := ⟨[(0, (L 2 e_api_Field a0)), (3, (.v (.int .i64 x3_1))), (4, (.v (.int .i64 x4_2))), (15, (.v (.bool ((decide (x4_2 < (a0.length : Int))) && (decide (x3_1 < 5000))))))], []⟩) ?_ ?_
    · refine .cv (VOk.mv (d := (.v (.int .i64 x4_2))) rfl rfl) rfl rfl ?_
      refine .cv (VOk.mv (d := (L 2 e_api_Field a0)) rfl rfl) rfl rfl ?_
      refine .cv (VOk.lenL (e := e_api_Field) (xs := a0) rfl Tryd.underlying42 rfl) rfl rfl ?_
      refine .cv (VOk.arith (op := .lss) (k := .i64) (a := x4_2) (b := (a0.length : Int)) rfl rfl rfl rfl) rfl rfl ?_
      refine .cv (VOk.mv (d := (.v (.bool (decide (x4_2 < (a0.length : Int)))))) rfl rfl) rfl rfl ?_
      refine OpsOk.consI rfl rfl rfl (.one rfl) rfl (fun hw6 => (VOk.g (VOk.mv (d := (.v (.int .i64 x3_1))) rfl rfl))) ?_
      refine OpsOk.consI rfl rfl rfl (.one rfl) rfl (fun hw6 => (GOk.fr (fr' := [(13, (.v (.int .i64 x3_1)))]) ⟨DLe.of_eq (cT hw6).symm, trivial⟩ (VOk.g (VOk.arith (op := .lss) (k := .i64) (a := x3_1) (b := 5000) rfl rfl rfl rfl)))) ?_
      refine .cv (VOk.to (VOk.pickI (b := (decide (x4_2 < (a0.length : Int)))) (p := (decide (x3_1 < 5000))) (q := false) rfl rfl (fun hp7 => (cT (t_beq hp7))) (fun hp7 => rfl)) (pickAnd (decide (x4_2 < (a0.length : Int))) (decide (x3_1 < 5000)))) rfl rfl ?_
      exact .done (.rf rfl rfl)
    refine Ok.test (b := ((decide (x4_2 < (a0.length : Int))) && (decide (x3_1 < 5000)))) rfl (fun hb10 => ?_) (fun hb10 => ?_)
    · replace H := ifT H hb10
      refine Ok.skip ?_
      refine Ok.seq ?_
      refine Ok.block ?_
      obtain ⟨c8, H⟩ := assertE H
      obtain ⟨c9, H⟩ := assertE H
      refine Ok.drawE (σ' := ⟨[(0, (L 2 e_api_Field a0)), (3, (.v (.int .i64 (IntKind.i64.wrap ((IntKind.i64.wrap (x3_1 + (if 5000 < (((rd a0 x4_2).Name).length : Int) then 5000 else (((rd a0 x4_2).Name).length : Int)))) + (if 5000 < (((rd a0 x4_2).Value).length : Int) then 5000 else (((rd a0 x4_2).Value).length : Int))))))), (4, (.v (.int .i64 x4_2)))], []⟩) [⟨true, [(3, (.v (.int .i64 x3_1)))], (.v (.int .i64 x3_1))⟩, ⟨true, [(0, (L 2 e_api_Field a0))], (L 2 e_api_Field a0)⟩, ⟨true, [(4, (.v (.int .i64 x4_2)))], (.v (.int .i64 x4_2))⟩, ⟨true, [(19, (L 2 e_api_Field a0)), (20, (.v (.int .i64 x4_2)))], (.fp (e_api_Field (rd a0 x4_2)) 0)⟩, ⟨true, [(21, (.fp (e_api_Field (rd a0 x4_2)) 0))], (.fp (e_api_Field (rd a0 x4_2)) 0)⟩, ⟨true, [(22, (.fp (e_api_Field (rd a0 x4_2)) 0))], (S ((rd a0 x4_2).Name))⟩, ⟨true, [(23, (S ((rd a0 x4_2).Name)))], (.v (.int .i64 (((rd a0 x4_2).Name).length : Int)))⟩, ⟨true, [(24, (.v (.int .i64 (((rd a0 x4_2).Name).length : Int))))], (.v (.int .i64 (if 5000 < (((rd a0 x4_2).Name).length : Int) then 5000 else (((rd a0 x4_2).Name).length : Int))))⟩, ⟨true, [(18, (.v (.int .i64 x3_1))), (25, (.v (.int .i64 (if 5000 < (((rd a0 x4_2).Name).length : Int) then 5000 else (((rd a0 x4_2).Name).length : Int)))))], (.v (.int .i64 (IntKind.i64.wrap (x3_1 + (if 5000 < (((rd a0 x4_2).Name).length : Int) then 5000 else (((rd a0 x4_2).Name).length : Int))))))⟩, ⟨true, [(0, (L 2 e_api_Field a0))], (L 2 e_api_Field a0)⟩, ⟨true, [(4, (.v (.int .i64 x4_2)))], (.v (.int .i64 x4_2))⟩, ⟨true, [(27, (L 2 e_api_Field a0)), (28, (.v (.int .i64 x4_2)))], (.fp (e_api_Field (rd a0 x4_2)) 0)⟩, ⟨true, [(29, (.fp (e_api_Field (rd a0 x4_2)) 0))], (.fp (e_api_Field (rd a0 x4_2)) 1)⟩, ⟨true, [(30, (.fp (e_api_Field (rd a0 x4_2)) 1))], (S ((rd a0 x4_2).Value))⟩, ⟨true, [(31, (S ((rd a0 x4_2).Value)))], (.v (.int .i64 (((rd a0 x4_2).Value).length : Int)))⟩, ⟨true, [(32, (.v (.int .i64 (((rd a0 x4_2).Value).length : Int))))], (.v (.int .i64 (if 5000 < (((rd a0 x4_2).Value).length : Int) then 5000 else (((rd a0 x4_2).Value).length : Int))))⟩, ⟨true, [(26, (.v (.int .i64 (IntKind.i64.wrap (x3_1 + (if 5000 < (((rd a0 x4_2).Name).length : Int) then 5000 else (((rd a0 x4_2).Name).length : Int))))))), (33, (.v (.int .i64 (if 5000 < (((rd a0 x4_2).Value).length : Int) then 5000 else (((rd a0 x4_2).Value).length : Int)))))], (.v (.int .i64 (IntKind.i64.wrap ((IntKind.i64.wrap (x3_1 + (if 5000 < (((rd a0 x4_2).Name).length : Int) then 5000 else (((rd a0 x4_2).Name).length : Int)))) + (if 5000 < (((rd a0 x4_2).Value).length : Int) then 5000 else (((rd a0 x4_2).Value).length : Int))))))⟩, ⟨true, [(34, (.v (.int .i64 (IntKind.i64.wrap ((IntKind.i64.wrap (x3_1 + (if 5000 < (((rd a0 x4_2).Name).length : Int) then 5000 else (((rd a0 x4_2).Name).length : Int)))) + (if 5000 < (((rd a0 x4_2).Value).length : Int) then 5000 else (((rd a0 x4_2).Value).length : Int)))))))], (.v (.int .i64 (IntKind.i64.wrap ((IntKind.i64.wrap (x3_1 + (if 5000 < (((rd a0 x4_2).Name).length : Int) then 5000 else (((rd a0 x4_2).Name).length : Int)))) + (if 5000 < (((rd a0 x4_2).Value).length : Int) then 5000 else (((rd a0 x4_2).Value).length : Int))))))⟩] [[], [], [], [1, 2], [3], [4], [5], [6], [0, 7], [], [], [9, 10], [11], [12], [13], [14], [8, 15], [0, 16]] mixed (by kernel_rfl) ?_ ?_
      · refine TxtE.cons rfl ⟨.same _, trivial⟩ rfl (VOk.g (VOk.mv (d := (.v (.int .i64 x3_1))) rfl rfl)) ?_
        refine TxtE.cons rfl ⟨.same _, trivial⟩ rfl (VOk.g (VOk.mv (d := (L 2 e_api_Field a0)) rfl rfl)) ?_
        refine TxtE.cons rfl ⟨.same _, trivial⟩ rfl (VOk.g (VOk.mv (d := (.v (.int .i64 x4_2))) rfl rfl)) ?_
        refine TxtE.cons rfl ⟨.same _, .same _, trivial⟩ rfl (VOk.g (VOk.indexL (sz := 2) (e := e_api_Field) (xs := a0) (i := x4_2) rfl Tryd.underlying42 sz54 rfl rfl c8)) ?_
        refine TxtE.cons rfl ⟨.same _, trivial⟩ rfl (VOk.g (VOk.to (VOk.fieldFp rfl Tryd.underlying54 rfl sz9 rfl) rfl)) ?_
        refine TxtE.cons rfl ⟨.same _, trivial⟩ rfl (VOk.g (VOk.loadFp (d := (S ((rd a0 x4_2).Name))) rfl Tryd.underlying9 rfl rfl rfl)) ?_
        refine TxtE.cons rfl ⟨.same _, trivial⟩ rfl (VOk.g (VOk.lenStr (s := (rd a0 x4_2).Name) rfl Tryd.underlying9 rfl)) ?_
        refine TxtE.cons rfl ⟨.same _, trivial⟩ rfl (VOk.g (VOk.min2 (a := (((rd a0 x4_2).Name).length : Int)) (b := 5000) rfl rfl rfl)) ?_
        refine TxtE.cons rfl ⟨.same _, .same _, trivial⟩ rfl (VOk.g (VOk.arith (op := .add) (k := .i64) (a := x3_1) (b := (if 5000 < (((rd a0 x4_2).Name).length : Int) then 5000 else (((rd a0 x4_2).Name).length : Int))) rfl rfl rfl rfl)) ?_
        refine TxtE.cons rfl ⟨.same _, trivial⟩ rfl (VOk.g (VOk.mv (d := (L 2 e_api_Field a0)) rfl rfl)) ?_
        refine TxtE.cons rfl ⟨.same _, trivial⟩ rfl (VOk.g (VOk.mv (d := (.v (.int .i64 x4_2))) rfl rfl)) ?_
        refine TxtE.cons rfl ⟨.same _, .same _, trivial⟩ rfl (VOk.g (VOk.indexL (sz := 2) (e := e_api_Field) (xs := a0) (i := x4_2) rfl Tryd.underlying42 sz54 rfl rfl c9)) ?_
        refine TxtE.cons rfl ⟨.same _, trivial⟩ rfl (VOk.g (VOk.to (VOk.fieldFp rfl Tryd.underlying54 rfl sz9 rfl) rfl)) ?_
        refine TxtE.cons rfl ⟨.same _, trivial⟩ rfl (VOk.g (VOk.loadFp (d := (S ((rd a0 x4_2).Value))) rfl Tryd.underlying9 rfl rfl rfl)) ?_
        refine TxtE.cons rfl ⟨.same _, trivial⟩ rfl (VOk.g (VOk.lenStr (s := (rd a0 x4_2).Value) rfl Tryd.underlying9 rfl)) ?_
        refine TxtE.cons rfl ⟨.same _, trivial⟩ rfl (VOk.g (VOk.min2 (a := (((rd a0 x4_2).Value).length : Int)) (b := 5000) rfl rfl rfl)) ?_
        refine TxtE.cons rfl ⟨.same _, .same _, trivial⟩ rfl (VOk.g (VOk.arith (op := .add) (k := .i64) (a := (IntKind.i64.wrap (x3_1 + (if 5000 < (((rd a0 x4_2).Name).length : Int) then 5000 else (((rd a0 x4_2).Name).length : Int))))) (b := (if 5000 < (((rd a0 x4_2).Value).length : Int) then 5000 else (((rd a0 x4_2).Value).length : Int))) rfl rfl rfl rfl)) ?_
        refine TxtE.cons rfl ⟨.same _, trivial⟩ rfl (VOk.g (VOk.asg (d := (.v (.int .i64 (IntKind.i64.wrap ((IntKind.i64.wrap (x3_1 + (if 5000 < (((rd a0 x4_2).Name).length : Int) then 5000 else (((rd a0 x4_2).Name).length : Int)))) + (if 5000 < (((rd a0 x4_2).Value).length : Int) then 5000 else (((rd a0 x4_2).Value).length : Int))))))) rfl rfl)) ?_
        exact .done (.rf rfl rfl)
      refine Ok.region (σ' := ⟨[(0, (L 2 e_api_Field a0)), (3, (.v (.int .i64 (IntKind.i64.wrap ((IntKind.i64.wrap (x3_1 + (if 5000 < (((rd a0 x4_2).Name).length : Int) then 5000 else (((rd a0 x4_2).Name).length : Int)))) + (if 5000 < (((rd a0 x4_2).Value).length : Int) then 5000 else (((rd a0 x4_2).Value).length : Int))))))), (4, (.v (.int .i64 (IntKind.i64.wrap (x4_2 + 1)))))], []⟩) ?_ ?_
      · refine .cv (VOk.mv (d := (.v (.int .i64 x4_2))) rfl rfl) rfl rfl ?_
        refine .cv (VOk.arith (op := .add) (k := .i64) (a := x4_2) (b := 1) rfl rfl rfl rfl) rfl rfl ?_
        refine .cv (VOk.asg (d := (.v (.int .i64 (IntKind.i64.wrap (x4_2 + 1))))) rfl rfl) rfl rfl ?_
        exact .done (.rf rfl rfl)
      exact ⟨m5, Nat.lt_succ_self m5, (IntKind.i64.wrap ((IntKind.i64.wrap (x3_1 + (if 5000 < (((rd a0 x4_2).Name).length : Int) then 5000 else (((rd a0 x4_2).Name).length : Int)))) + (if 5000 < (((rd a0 x4_2).Value).length : Int) then 5000 else (((rd a0 x4_2).Value).length : Int)))), (IntKind.i64.wrap (x4_2 + 1)), rfl, H⟩
    · replace H := ifF H hb10
      refine Ok.exit ?_
      refine Ok.seq ?_
      refine Ok.region (σ' := ⟨[(2, (.v (.bool (decide (x3_1 < 5000)))))], []⟩) ?_ ?_
      · refine .cv (VOk.mv (d := (.v (.int .i64 x3_1))) rfl rfl) rfl rfl ?_
        refine .cv (VOk.arith (op := .lss) (k := .i64) (a := x3_1) (b := 5000) rfl rfl rfl rfl) rfl rfl ?_
        refine .cv (VOk.asg (d := (.v (.bool (decide (x3_1 < 5000))))) rfl rfl) rfl rfl ?_
        exact .done (.rf rfl rfl)
      refine Ok.ret ?_
      obtain rfl := Option.some.inj H
      exact ⟨.inl rfl, ⟨_, (.cons (.tmp rfl) .nil), rfl⟩, trivial⟩

/-! (*strings.Builder).WriteByte: function 61 -/
def strings_Builder_WriteByte (a0 : T_strings_Builder) (a1 : Int) : Option (Unit × T_strings_Builder) := (if (a0.Buf_.length + ([a1] : List Int).length) * 1 ≤ 140737488355328 then some ((), (T_strings_Builder.mk (a0.Buf_ ++ ([a1] : List Int)))) else none)
theorem strings_Builder_WriteByte.ok {a0 : T_strings_Builder} {a1 : Int} {r : Unit × T_strings_Builder} (H : strings_Builder_WriteByte a0 a1 = some r) (b : Nat) : Vx.Fn Tryd.prog 61 [(.bref 0 0), (.v (.int .u8 a1))] [(0, (.box (.bat b 84) [.junk, (.sref 1001)])), (1001, (.rows true 5 1 (a0.Buf_.map (eI .u8))))] (.v .nilIface) [(0, (.box (.bat b 84) [.junk, (.sref 1001)])), (1001, (.rows true 5 1 (r.2.Buf_.map (eI .u8)))), (999, .none)] := by
  unfold strings_Builder_WriteByte at H
  refine Vx.Fn.of_okR Tryd.func61 rfl (Nat.le_of_ble_eq_true rfl) ?_
  refine Ok.seq ?_
  refine Ok.region (σ' := ⟨[(0, (.bref 0 0)), (1, (.v (.int .u8 a1)))], [(0, (.box (.bat b 84) [.junk, (.sref 1001)])), (1001, (.rows true 5 1 (a0.Buf_.map (eI .u8))))]⟩) ?_ ?_
  · refine .cv (VOk.asg (d := (.v .nilIface)) rfl rfl) rfl rfl ?_
    exact .done (.rf rfl rfl)
  refine Ok.seq ?_
  refine Ok.region (σ' := ⟨[(0, (.bref 0 0)), (1, (.v (.int .u8 a1)))], [(0, (.box (.bat b 84) [.junk, (.sref 1001)])), (1001, (.rows true 5 1 (a0.Buf_.map (eI .u8))))]⟩) ?_ ?_
  · refine .cv (VOk.mv (d := (.bref 0 0)) rfl rfl) rfl rfl ?_
    refine OpsOk.cons rfl (OpOk.copyCheck rfl rfl cl66 rfl rfl rfl ccF ccU rfl) ?_
    exact .done (.rf rfl rfl)
  refine Ok.seq ?_
  obtain ⟨c1, H⟩ := assertE H
  refine Ok.region (σ' := ⟨[], [(0, (.box (.bat b 84) [.junk, (.sref 1001)])), (1001, (.rows true 5 1 ((a0.Buf_ ++ ([a1] : List Int)).map (eI .u8))))]⟩) ?_ ?_
  · refine .cv (VOk.mv (d := (.bref 0 0)) rfl rfl) rfl rfl ?_
    refine .cv (VOk.mv (d := (.bref 0 0)) rfl rfl) rfl rfl ?_
    refine .cv (VOk.nilCheckB rfl rfl rfl) rfl rfl ?_
    refine .cv (VOk.to (VOk.fieldB rfl Tryd.underlying84 rfl sz78 rfl rfl) rfl) rfl rfl ?_
    refine .cv (VOk.loadB (d := (.sref 1001)) rfl Tryd.underlying78 rfl rfl rfl rfl) rfl rfl ?_
    refine .cv (VOk.mv (d := (.v (.int .u8 a1))) rfl rfl) rfl rfl ?_
    refine .cg (GOk.to (d' := (L 1 (eI .u8) ([a1] : List Int))) (GOk.lit rfl Tryd.underlying78 sz5 zs5 rfl rfl rfl rfl) rfl) rfl rfl ?_
    refine OpsOk.cons rfl (OpOk.appendL (e := (eI .u8)) (xs := a0.Buf_) (ys := ([a1] : List Int)) rfl Tryd.underlying78 elt5 rfl rfl rfl c1 rfl) ?_
    refine .cv (VOk.nilCheckB rfl rfl rfl) rfl rfl ?_
    refine .cv (VOk.to (VOk.fieldB rfl Tryd.underlying84 rfl sz78 rfl rfl) rfl) rfl rfl ?_
    refine OpsOk.cons rfl (OpOk.to (σ2 := St.put ⟨_, (0, (.box (.bat b 84) [.junk, (.sref 1001)])) :: _⟩ _ .junk) (.storeB rfl sz78 rfl rfl rfl rfl rfl rfl) rfl) ?_
    exact .done (.rf rfl rfl)
  refine Ok.seq ?_
  refine Ok.region (σ' := ⟨[(4, (.v .nilIface))], [(0, (.box (.bat b 84) [.junk, (.sref 1001)])), (1001, (.rows true 5 1 ((a0.Buf_ ++ ([a1] : List Int)).map (eI .u8))))]⟩) ?_ ?_
  · refine .cv (VOk.asg (d := (.v .nilIface)) rfl rfl) rfl rfl ?_
    exact .done (.rf rfl rfl)
  refine Ok.ret ?_
  obtain rfl := Option.some.inj H
  exact ⟨.inl rfl, ⟨_, (.cons (.tmp rfl) .nil), rfl⟩, ⟨.same _, .same _, .none _, trivial⟩⟩

/-! watchbill/field.quote: function 42 -/
def field_quote.l0 (k : Nat) (a0 : Str) : Nat → List Int → Int → Option Str
  | 0, _, _ => none
  | m5 + 1, y1061_2, x9_1 => (if (decide (x9_1 < ((bytesOfStr a0).length : Int))) = true then (if (0 : Int) ≤ x9_1 ∧ x9_1 < ((bytesOfStr a0).length : Int) then (if (((rd (bytesOfStr a0) x9_1) == 34) || ((rd (bytesOfStr a0) x9_1) == 92)) = true then ((strings_Builder_WriteByte (T_strings_Builder.mk y1061_2) 92).bind fun (t9 : Unit × T_strings_Builder) => ((strings_Builder_WriteByte (T_strings_Builder.mk t9.2.Buf_) (rd (bytesOfStr a0) x9_1)).bind fun (t11 : Unit × T_strings_Builder) => field_quote.l0 k a0 m5 t11.2.Buf_ (IntKind.i64.wrap (x9_1 + 1)))) else ((strings_Builder_WriteByte (T_strings_Builder.mk y1061_2) (rd (bytesOfStr a0) x9_1)).bind fun (t13 : Unit × T_strings_Builder) => field_quote.l0 k a0 m5 t13.2.Buf_ (IntKind.i64.wrap (x9_1 + 1)))) else none) else (if u8s y1061_2 = true then (if ([34] : Str).length + (strOfBytes y1061_2).length ≤ 9223372036854775807 then (if (([34] : Str) ++ (strOfBytes y1061_2)).length + ([34] : Str).length ≤ 9223372036854775807 then some ((([34] : Str) ++ (strOfBytes y1061_2)) ++ ([34] : Str)) else none) else none) else none))
def field_quote (k : Nat) (a0 : Str) : Option Str := field_quote.l0 k a0 k ([] : List Int) 0
theorem field_quote.ok {k : Nat} {a0 : Str} {r : Str} (H : field_quote k a0 = some r) : Vx.Fn Tryd.prog 42 [(S a0)] [] (S r) [] := by
  unfold field_quote at H
  refine Vx.Fn.of_okR Tryd.func42 rfl (Nat.le_of_ble_eq_true rfl) ?_
  refine Ok.seq ?_
  refine Ok.region (σ' := ⟨[(0, (S a0))], []⟩) ?_ ?_
  · refine .cv (VOk.asg (d := (S ([] : Str))) rfl rfl) rfl rfl ?_
    exact .done (.rf rfl rfl)
  refine Ok.seq ?_
  refine Ok.region (σ' := ⟨[(0, (S a0)), (3, (.bref 3 0))], [(3, (.box (.bld 84) [.junk, (.sref 1061)])), (1061, (.rows true 5 1 (([] : List Int).map (eI .u8))))]⟩) ?_ ?_
  · refine OpsOk.cons rfl (OpOk.allocBd 3 [none, none] rfl zo84 rfl rfl) ?_
    refine OpsOk.sle (SLe.adopt 3 1061 1 5 1 rfl rfl rfl rfl rfl) ?_
    exact .done (.rf rfl rfl)
  refine Ok.seq ?_
  refine Ok.seq ?_
  refine Ok.region (σ' := ⟨[(3, (.bref 3 0)), (7, (L 1 (eI .u8) (bytesOfStr a0))), (8, (.v (.int .i64 ((bytesOfStr a0).length : Int)))), (9, (.v (.int .i64 0)))], [(3, (.box (.bld 84) [.junk, (.sref 1061)])), (1061, (.rows true 5 1 (([] : List Int).map (eI .u8))))]⟩) ?_ ?_
  · refine .cv (VOk.mv (d := (S a0)) rfl rfl) rfl rfl ?_
    refine .cg (GOk.strBytes (s := a0) rfl Tryd.underlying9 Tryd.underlying78 Tryd.underlying5 rfl) rfl rfl ?_
    refine .cv (VOk.lenL (e := (eI .u8)) (xs := (bytesOfStr a0)) rfl Tryd.underlying78 rfl) rfl rfl ?_
    refine .cv (VOk.mv (d := (.v (.int .i64 0))) rfl rfl) rfl rfl ?_
    exact .done (.rf rfl rfl)
  refine Ok.block ?_
  refine Ok.le (σ' := ⟨[(3, (.bref 3 0)), (7, (L 1 (eI .u8) (bytesOfStr a0))), (8, (.v (.int .i64 ((bytesOfStr a0).length : Int)))), (9, (.v (.int .i64 0)))], [(3, (.box (.bld 84) [.junk, (.sref 1061)])), (1061, (.rows true 5 1 (([] : List Int).map (eI .u8))))]⟩) (.rf rfl rfl) ?_
  refine Ok.loop (fun m5 σ => ∃ (y1061_2 : List Int) (x9_1 : Int), σ = ⟨[(3, (.bref 3 0)), (7, (L 1 (eI .u8) (bytesOfStr a0))), (8, (.v (.int .i64 ((bytesOfStr a0).length : Int)))), (9, (.v (.int .i64 x9_1)))], [(3, (.box (.bld 84) [.junk, (.sref 1061)])), (1061, (.rows true 5 1 (y1061_2.map (eI .u8))))]⟩ ∧ field_quote.l0 k a0 m5 y1061_2 x9_1 = some r) k ⟨([] : List Int), 0, rfl, H⟩ ?_
  rintro m5 σ ⟨y1061_2, x9_1, rfl, H⟩
  cases m5 with
  | zero => exact absurd H (by simp [field_quote.l0])
  | succ m5 =>
    unfold field_quote.l0 at H
    refine Ok.seq ?_
    refine Ok.region (σ' := ⟨[(3, (.bref 3 0)), (7, (L 1 (eI .u8) (bytesOfStr a0))), (8, (.v (.int .i64 ((bytesOfStr a0).length : Int)))), (9, (.v (.int .i64 x9_1))), (10, (.v (.bool (decide (x9_1 < ((bytesOfStr a0).length : Int))))))], [(3, (.box (.bld 84) [.junk, (.sref 1061)])), (1061, (.rows true 5 1 (y1061_2.map (eI .u8))))]⟩) ?_ ?_
    · refine .cv (VOk.arith (op := .lss) (k := .i64) (a := x9_1) (b := ((bytesOfStr a0).length : Int)) rfl rfl rfl rfl) rfl rfl ?_
      exact .done (.rf rfl rfl)
    refine Ok.seq ?_
    refine Ok.test (b := (decide (x9_1 < ((bytesOfStr a0).length : Int)))) rfl (fun hb19 => ?_) (fun hb19 => ?_)
    · replace H := ifT H hb19
      refine Ok.skip ?_
      refine Ok.seq ?_
      refine Ok.block ?_
      refine Ok.seq ?_
      obtain ⟨c6, H⟩ := assertE H
      refine Ok.region (σ' := ⟨[(3, (.bref 3 0)), (5, (.v (.int .u8 (rd (bytesOfStr a0) x9_1)))), (7, (L 1 (eI .u8) (bytesOfStr a0))), (8, (.v (.int .i64 ((bytesOfStr a0).length : Int)))), (9, (.v (.int .i64 x9_1)))], [(3, (.box (.bld 84) [.junk, (.sref 1061)])), (1061, (.rows true 5 1 (y1061_2.map (eI .u8))))]⟩) ?_ ?_
      · refine .cv (VOk.indexL (sz := 1) (e := (eI .u8)) (xs := (bytesOfStr a0)) (i := x9_1) rfl Tryd.underlying78 sz5 rfl rfl c6) rfl rfl ?_
        refine .cv (VOk.loadFp (d := (.v (.int .u8 (rd (bytesOfStr a0) x9_1)))) rfl Tryd.underlying5 rfl rfl rfl) rfl rfl ?_
        refine .cv (VOk.asg (d := (.v (.int .u8 (rd (bytesOfStr a0) x9_1)))) rfl rfl) rfl rfl ?_
        exact .done (.rf rfl rfl)
      refine Ok.seq ?_
      refine Ok.seq ?_
      refine Ok.region (σ' := ⟨[(3, (.bref 3 0)), (5, (.v (.int .u8 (rd (bytesOfStr a0) x9_1)))), (7, (L 1 (eI .u8) (bytesOfStr a0))), (8, (.v (.int .i64 ((bytesOfStr a0).length : Int)))), (9, (.v (.int .i64 x9_1))), (18, (.v (.bool (((rd (bytesOfStr a0) x9_1) == 34) || ((rd (bytesOfStr a0) x9_1) == 92)))))], [(3, (.box (.bld 84) [.junk, (.sref 1061)])), (1061, (.rows true 5 1 (y1061_2.map (eI .u8))))]⟩) ?_ ?_
      · refine .cv (VOk.mv (d := (.v (.int .u8 (rd (bytesOfStr a0) x9_1)))) rfl rfl) rfl rfl ?_
        refine .cv (VOk.arith (op := .eql) (k := .u8) (a := (rd (bytesOfStr a0) x9_1)) (b := 34) rfl rfl rfl rfl) rfl rfl ?_
        refine .cv (VOk.mv (d := (.v (.bool ((rd (bytesOfStr a0) x9_1) == 34)))) rfl rfl) rfl rfl ?_
        refine OpsOk.consI rfl rfl rfl (.one rfl) rfl (fun hw7 => (VOk.g (VOk.mv (d := (.v (.int .u8 (rd (bytesOfStr a0) x9_1)))) rfl rfl))) ?_
        refine OpsOk.consI rfl rfl rfl (.one rfl) rfl (fun hw7 => (GOk.fr (fr' := [(16, (.v (.int .u8 (rd (bytesOfStr a0) x9_1))))]) ⟨DLe.of_eq (cT hw7).symm, trivial⟩ (VOk.g (VOk.arith (op := .eql) (k := .u8) (a := (rd (bytesOfStr a0) x9_1)) (b := 92) rfl rfl rfl rfl)))) ?_
        refine .cv (VOk.to (VOk.pickI (b := ((rd (bytesOfStr a0) x9_1) == 34)) (p := true) (q := ((rd (bytesOfStr a0) x9_1) == 92)) rfl rfl (fun hp8 => rfl) (fun hp8 => (cT (f_beq hp8)))) (pickOr ((rd (bytesOfStr a0) x9_1) == 34) ((rd (bytesOfStr a0) x9_1) == 92))) rfl rfl ?_
        exact .done (.rf rfl rfl)
      refine Ok.test (b := (((rd (bytesOfStr a0) x9_1) == 34) || ((rd (bytesOfStr a0) x9_1) == 92))) rfl (fun hb15 => ?_) (fun hb15 => ?_)
      · replace H := ifT H hb15
        obtain ⟨t9, h10, H⟩ := bindE H
        refine Ok.region (σ' := ⟨[(3, (.bref 3 0)), (5, (.v (.int .u8 (rd (bytesOfStr a0) x9_1)))), (7, (L 1 (eI .u8) (bytesOfStr a0))), (8, (.v (.int .i64 ((bytesOfStr a0).length : Int)))), (9, (.v (.int .i64 x9_1)))], [(3, (.box (.bld 84) [.junk, (.sref 1061)])), (1061, (.rows true 5 1 (t9.2.Buf_.map (eI .u8))))]⟩) ?_ ?_
        · refine OpsOk.cons rfl (OpOk.callT (e := (.bld 84)) 3 1061 919 rfl rfl cl61 (fun b => ((strings_Builder_WriteByte.ok h10) b)) rfl rfl rfl rfl rfl rfl rfl rfl) ?_
          exact .done (.rf rfl rfl)
        obtain ⟨t11, h12, H⟩ := bindE H
        refine Ok.region (σ' := ⟨[(3, (.bref 3 0)), (7, (L 1 (eI .u8) (bytesOfStr a0))), (8, (.v (.int .i64 ((bytesOfStr a0).length : Int)))), (9, (.v (.int .i64 x9_1)))], [(3, (.box (.bld 84) [.junk, (.sref 1061)])), (1061, (.rows true 5 1 (t11.2.Buf_.map (eI .u8))))]⟩) ?_ ?_
        · refine .cv (VOk.mv (d := (.v (.int .u8 (rd (bytesOfStr a0) x9_1)))) rfl rfl) rfl rfl ?_
          refine OpsOk.cons rfl (OpOk.callT (e := (.bld 84)) 3 1061 921 rfl rfl cl61 (fun b => ((strings_Builder_WriteByte.ok h12) b)) rfl rfl rfl rfl rfl rfl rfl rfl) ?_
          exact .done (.rf rfl rfl)
        refine Ok.region (σ' := ⟨[(3, (.bref 3 0)), (7, (L 1 (eI .u8) (bytesOfStr a0))), (8, (.v (.int .i64 ((bytesOfStr a0).length : Int)))), (9, (.v (.int .i64 (IntKind.i64.wrap (x9_1 + 1)))))], [(3, (.box (.bld 84) [.junk, (.sref 1061)])), (1061, (.rows true 5 1 (t11.2.Buf_.map (eI .u8))))]⟩) ?_ ?_
        · refine .cv (VOk.arith (op := .add) (k := .i64) (a := x9_1) (b := 1) rfl rfl rfl rfl) rfl rfl ?_
          refine .cv (VOk.mv (d := (.v (.int .i64 (IntKind.i64.wrap (x9_1 + 1))))) rfl rfl) rfl rfl ?_
          exact .done (.rf rfl rfl)
        exact ⟨m5, Nat.lt_succ_self m5, t11.2.Buf_, (IntKind.i64.wrap (x9_1 + 1)), rfl, H⟩
      · replace H := ifF H hb15
        refine Ok.skip ?_
        obtain ⟨t13, h14, H⟩ := bindE H
        refine Ok.region (σ' := ⟨[(3, (.bref 3 0)), (7, (L 1 (eI .u8) (bytesOfStr a0))), (8, (.v (.int .i64 ((bytesOfStr a0).length : Int)))), (9, (.v (.int .i64 x9_1)))], [(3, (.box (.bld 84) [.junk, (.sref 1061)])), (1061, (.rows true 5 1 (t13.2.Buf_.map (eI .u8))))]⟩) ?_ ?_
        · refine .cv (VOk.mv (d := (.v (.int .u8 (rd (bytesOfStr a0) x9_1)))) rfl rfl) rfl rfl ?_
          refine OpsOk.cons rfl (OpOk.callT (e := (.bld 84)) 3 1061 921 rfl rfl cl61 (fun b => ((strings_Builder_WriteByte.ok h14) b)) rfl rfl rfl rfl rfl rfl rfl rfl) ?_
          exact .done (.rf rfl rfl)
        refine Ok.region (σ' := ⟨[(3, (.bref 3 0)), (7, (L 1 (eI .u8) (bytesOfStr a0))), (8, (.v (.int .i64 ((bytesOfStr a0).length : Int)))), (9, (.v (.int .i64 (IntKind.i64.wrap (x9_1 + 1)))))], [(3, (.box (.bld 84) [.junk, (.sref 1061)])), (1061, (.rows true 5 1 (t13.2.Buf_.map (eI .u8))))]⟩) ?_ ?_
        · refine .cv (VOk.arith (op := .add) (k := .i64) (a := x9_1) (b := 1) rfl rfl rfl rfl) rfl rfl ?_
          refine .cv (VOk.mv (d := (.v (.int .i64 (IntKind.i64.wrap (x9_1 + 1))))) rfl rfl) rfl rfl ?_
          exact .done (.rf rfl rfl)
        exact ⟨m5, Nat.lt_succ_self m5, t13.2.Buf_, (IntKind.i64.wrap (x9_1 + 1)), rfl, H⟩
    · replace H := ifF H hb19
      refine Ok.exit ?_
      refine Ok.seq ?_
      obtain ⟨c16, H⟩ := assertE H
      obtain ⟨c17, H⟩ := assertE H
      obtain ⟨c18, H⟩ := assertE H
      refine Ok.region (σ' := ⟨[(2, (S ((([34] : Str) ++ (strOfBytes y1061_2)) ++ ([34] : Str))))], []⟩) ?_ ?_
      · refine OpsOk.cons rfl (OpOk.callStr (xs := y1061_2) rfl rfl cl55 rfl rfl rfl rfl rfl c16 bdS rfl) ?_
        refine .cv (VOk.cat (a := ([34] : Str)) (b := (strOfBytes y1061_2)) rfl rfl rfl c17) rfl rfl ?_
        refine .cv (VOk.cat (a := (([34] : Str) ++ (strOfBytes y1061_2))) (b := ([34] : Str)) rfl rfl rfl c18) rfl rfl ?_
        refine .cv (VOk.asg (d := (S ((([34] : Str) ++ (strOfBytes y1061_2)) ++ ([34] : Str)))) rfl rfl) rfl rfl ?_
        exact .done (.rf rfl rfl)
      refine Ok.ret ?_
      obtain rfl := Option.some.inj H
      exact ⟨.inl rfl, ⟨_, (.cons (.tmp rfl) .nil), rfl⟩, trivial⟩

/-! watchbill/field.PrintType: function 19 -/
def field_PrintType.j1 (c0 : Int → Str → Option (Str × Int)) (a1 : List T_api_Field) (x34_11 : Int) (x9_10 : Str) (x12_16 : Str) : Option (Str × Int) := (if ([59, 32] : Str).length + ((rd a1 x34_11).Name).length ≤ 9223372036854775807 then (if (([59, 32] : Str) ++ ((rd a1 x34_11).Name)).length + ([61] : Str).length ≤ 9223372036854775807 then (if ((([59, 32] : Str) ++ ((rd a1 x34_11).Name)) ++ ([61] : Str)).length + x12_16.length ≤ 9223372036854775807 then (if x9_10.length + (((([59, 32] : Str) ++ ((rd a1 x34_11).Name)) ++ ([61] : Str)) ++ x12_16).length ≤ 9223372036854775807 then c0 (IntKind.i64.wrap (x34_11 + 1)) (x9_10 ++ (((([59, 32] : Str) ++ ((rd a1 x34_11).Name)) ++ ([61] : Str)) ++ x12_16)) else none) else none) else none) else none)
def field_PrintType.l0 (k : Nat) (a1 : List T_api_Field) : Nat → Int → Str → Option (Str × Int)
  | 0, _, _ => none
  | m14 + 1, x34_11, x9_10 => (if (decide (x34_11 < (a1.length : Int))) = true then (if (0 : Int) ≤ x34_11 ∧ x34_11 < (a1.length : Int) then ((field_Token k ((rd a1 x34_11).Name)).bind fun (t21 : Bool) => (if (!t21) = true then some (([] : Str), 12) else (((if ((!(((rd a1 x34_11).Value) == ([] : Str))) == true) = true then field_all_2 k ((rd a1 x34_11).Value) else some default)).bind fun (t24 : Bool) => (if ((!(((rd a1 x34_11).Value) == ([] : Str))) && (!t24)) = true then some (([] : Str), 4) else ((field_Token k ((rd a1 x34_11).Value)).bind fun (t27 : Bool) => (if (!t27) = true then ((field_quote k ((rd a1 x34_11).Value)).bind fun (t29 : Str) => field_PrintType.j1 (field_PrintType.l0 k a1 m14) a1 x34_11 x9_10 t29) else field_PrintType.j1 (field_PrintType.l0 k a1 m14) a1 x34_11 x9_10 ((rd a1 x34_11).Value))))))) else none) else some (x9_10, 0))
def field_PrintType (k : Nat) (a0 : Str) (a1 : List T_api_Field) : Option (Str × Int) := (if a0.length < 4294967281 then (((if ((!((Lib.cut a0 ([47] : Str)).2.2)) == false) = true then field_Token k ((Lib.cut a0 ([47] : Str)).1) else some default)).bind fun (t3 : Bool) => (((if (((!((Lib.cut a0 ([47] : Str)).2.2)) || (!t3)) == false) = true then field_Token k ((Lib.cut a0 ([47] : Str)).2.1) else some default)).bind fun (t7 : Bool) => (if (((!((Lib.cut a0 ([47] : Str)).2.2)) || (!t3)) || (!t7)) = true then some (([] : Str), 31) else field_PrintType.l0 k a1 k 0 a0))) else none)
theorem field_PrintType.ok {k : Nat} {a0 : Str} {a1 : List T_api_Field} {r : Str × Int} (H : field_PrintType k a0 a1 = some r) : Vx.Fn Tryd.prog 19 [(S a0), (L 2 e_api_Field a1)] [] (.tup [(S r.1), (.v (.int .i64 r.2))]) [] := by
  unfold field_PrintType at H
  refine Vx.Fn.of_okR Tryd.func19 rfl (Nat.le_of_ble_eq_true rfl) ?_
  refine Ok.seq ?_
  refine Ok.region (σ' := ⟨[(0, (S a0)), (1, (L 2 e_api_Field a1))], []⟩) ?_ ?_
  · refine .cv (VOk.asg (d := (S ([] : Str))) rfl rfl) rfl rfl ?_
    refine .cv (VOk.asg (d := (.v (.int .i64 0))) rfl rfl) rfl rfl ?_
    exact .done (.rf rfl rfl)
  refine Ok.seq ?_
  refine Ok.seq ?_
  obtain ⟨c1, H⟩ := assertE H
  refine Ok.region (σ' := ⟨[(0, (S a0)), (1, (L 2 e_api_Field a1)), (6, (S ((Lib.cut a0 ([47] : Str)).1))), (7, (S ((Lib.cut a0 ([47] : Str)).2.1))), (8, (.v (.bool ((Lib.cut a0 ([47] : Str)).2.2))))], []⟩) ?_ ?_
  · refine .cv (VOk.mv (d := (S a0)) rfl rfl) rfl rfl ?_
    refine .cg (GOk.extB (us := [.string (ba a0), .string (ba ([47] : Str))]) (d := (.tup [(S ((Lib.cut a0 ([47] : Str)).1)), (S ((Lib.cut a0 ([47] : Str)).2.1)), (.v (.bool ((Lib.cut a0 ([47] : Str)).2.2)))])) rfl rfl cl40 rfl (fun _ _ => cut_pu _ _ _) (fun w hG => shCut c1 w hG)) rfl rfl ?_
    refine .cv (VOk.mv (d := (.tup [(S ((Lib.cut a0 ([47] : Str)).1)), (S ((Lib.cut a0 ([47] : Str)).2.1)), (.v (.bool ((Lib.cut a0 ([47] : Str)).2.2)))])) rfl rfl) rfl rfl ?_
    refine .cv (VOk.extract (d := (S ((Lib.cut a0 ([47] : Str)).1))) rfl rfl rfl) rfl rfl ?_
    refine .cv (VOk.extract (d := (S ((Lib.cut a0 ([47] : Str)).2.1))) rfl rfl rfl) rfl rfl ?_
    refine .cv (VOk.extract (d := (.v (.bool ((Lib.cut a0 ([47] : Str)).2.2)))) rfl rfl rfl) rfl rfl ?_
    refine .cv (VOk.asg (d := (S ((Lib.cut a0 ([47] : Str)).1))) rfl rfl) rfl rfl ?_
    refine .cv (VOk.asg (d := (S ((Lib.cut a0 ([47] : Str)).2.1))) rfl rfl) rfl rfl ?_
    refine .cv (VOk.asg (d := (.v (.bool ((Lib.cut a0 ([47] : Str)).2.2)))) rfl rfl) rfl rfl ?_
    exact .done (.rf rfl rfl)
  refine Ok.seq ?_
  obtain ⟨t3, h4, H⟩ := bindE H
  obtain ⟨t7, h8, H⟩ := bindE H
  refine Ok.region (σ' := ⟨[(0, (S a0)), (1, (L 2 e_api_Field a1)), (30, (.v (.bool (((!((Lib.cut a0 ([47] : Str)).2.2)) || (!t3)) || (!t7)))))], []⟩) ?_ ?_
  · refine .cv (VOk.mv (d := (.v (.bool ((Lib.cut a0 ([47] : Str)).2.2)))) rfl rfl) rfl rfl ?_
    refine .cv (VOk.not (b := (Lib.cut a0 ([47] : Str)).2.2) rfl rfl) rfl rfl ?_
    refine .cv (VOk.mv (d := (.v (.bool (!((Lib.cut a0 ([47] : Str)).2.2))))) rfl rfl) rfl rfl ?_
    refine OpsOk.consI rfl rfl rfl (.one rfl) rfl (fun hw2 => (VOk.g (VOk.mv (d := (S ((Lib.cut a0 ([47] : Str)).1))) rfl rfl))) ?_
    refine OpsOk.consI rfl rfl rfl (.one rfl) rfl (fun hw2 => (GOk.fr (fr' := [(22, (S ((Lib.cut a0 ([47] : Str)).1)))]) ⟨DLe.of_eq (cT hw2).symm, trivial⟩ (GOk.call rfl rfl cl16 rfl (field_Token.ok (ifT h4 hw2)) rfl))) ?_
    refine OpsOk.consI rfl rfl rfl (.one rfl) rfl (fun hw2 => (GOk.fr (fr' := [(23, (.v (.bool t3)))]) ⟨DLe.of_eq (cT hw2).symm, trivial⟩ (VOk.g (VOk.not (b := t3) rfl rfl)))) ?_
    refine .cv (VOk.to (VOk.pickI (b := (!((Lib.cut a0 ([47] : Str)).2.2))) (p := true) (q := (!t3)) rfl rfl (fun hp5 => rfl) (fun hp5 => (cT (f_beq hp5)))) (pickOr (!((Lib.cut a0 ([47] : Str)).2.2)) (!t3))) rfl rfl ?_
    refine .cv (VOk.mv (d := (.v (.bool ((!((Lib.cut a0 ([47] : Str)).2.2)) || (!t3))))) rfl rfl) rfl rfl ?_
    refine OpsOk.consI rfl rfl rfl (.one rfl) rfl (fun hw6 => (VOk.g (VOk.mv (d := (S ((Lib.cut a0 ([47] : Str)).2.1))) rfl rfl))) ?_
    refine OpsOk.consI rfl rfl rfl (.one rfl) rfl (fun hw6 => (GOk.fr (fr' := [(27, (S ((Lib.cut a0 ([47] : Str)).2.1)))]) ⟨DLe.of_eq (cT hw6).symm, trivial⟩ (GOk.call rfl rfl cl16 rfl (field_Token.ok (ifT h8 hw6)) rfl))) ?_
    refine OpsOk.consI rfl rfl rfl (.one rfl) rfl (fun hw6 => (GOk.fr (fr' := [(28, (.v (.bool t7)))]) ⟨DLe.of_eq (cT hw6).symm, trivial⟩ (VOk.g (VOk.not (b := t7) rfl rfl)))) ?_
    refine .cv (VOk.to (VOk.pickI (b := ((!((Lib.cut a0 ([47] : Str)).2.2)) || (!t3))) (p := true) (q := (!t7)) rfl rfl (fun hp9 => rfl) (fun hp9 => (cT (f_beq hp9)))) (pickOr ((!((Lib.cut a0 ([47] : Str)).2.2)) || (!t3)) (!t7))) rfl rfl ?_
    exact .done (.rf rfl rfl)
  refine Ok.test (b := (((!((Lib.cut a0 ([47] : Str)).2.2)) || (!t3)) || (!t7))) rfl (fun hb35 => ?_) (fun hb35 => ?_)
  · replace H := ifT H hb35
    refine Ok.seq ?_
    refine Ok.region (σ' := ⟨[(4, (S ([] : Str))), (5, (.v (.int .i64 31)))], []⟩) ?_ ?_
    · refine .cv (VOk.asg (d := (S ([] : Str))) rfl rfl) rfl rfl ?_
      refine .cv (VOk.asg (d := (.v (.int .i64 31))) rfl rfl) rfl rfl ?_
      exact .done (.rf rfl rfl)
    refine Ok.ret ?_
    obtain rfl := Option.some.inj H
    exact ⟨.inl rfl, ⟨_, (.cons (.tmp rfl) (.cons (.tmp rfl) .nil)), rfl⟩, trivial⟩
  · replace H := ifF H hb35
    refine Ok.skip ?_
    refine Ok.seq ?_
    refine Ok.region (σ' := ⟨[(1, (L 2 e_api_Field a1)), (9, (S a0))], []⟩) ?_ ?_
    · refine .cv (VOk.mv (d := (S a0)) rfl rfl) rfl rfl ?_
      refine .cv (VOk.asg (d := (S a0)) rfl rfl) rfl rfl ?_
      exact .done (.rf rfl rfl)
    refine Ok.seq ?_
    refine Ok.seq ?_
    refine Ok.region (σ' := ⟨[(9, (S a0)), (32, (L 2 e_api_Field a1)), (33, (.v (.int .i64 (a1.length : Int)))), (34, (.v (.int .i64 0)))], []⟩) ?_ ?_
    · refine .cv (VOk.mv (d := (L 2 e_api_Field a1)) rfl rfl) rfl rfl ?_
      refine .cv (VOk.lenL (e := e_api_Field) (xs := a1) rfl Tryd.underlying42 rfl) rfl rfl ?_
      refine .cv (VOk.mv (d := (.v (.int .i64 0))) rfl rfl) rfl rfl ?_
      exact .done (.rf rfl rfl)
    refine Ok.block ?_
    refine Ok.le (σ' := ⟨[(9, (S a0)), (32, (L 2 e_api_Field a1)), (33, (.v (.int .i64 (a1.length : Int)))), (34, (.v (.int .i64 0)))], []⟩) (.rf rfl rfl) ?_
    refine Ok.loop (fun m14 σ => ∃ (x34_11 : Int) (x9_10 : Str), σ = ⟨[(9, (S x9_10)), (32, (L 2 e_api_Field a1)), (33, (.v (.int .i64 (a1.length : Int)))), (34, (.v (.int .i64 x34_11)))], []⟩ ∧ field_PrintType.l0 k a1 m14 x34_11 x9_10 = some r) k ⟨0, a0, rfl, H⟩ ?_
    rintro m14 σ ⟨x34_11, x9_10, rfl, H⟩
    cases m14 with
    | zero => exact absurd H (by simp [field_PrintType.l0])
    | succ m14 =>
      unfold field_PrintType.l0 at H
      refine Ok.seq ?_
      refine Ok.region (σ' := ⟨[(9, (S x9_10)), (32, (L 2 e_api_Field a1)), (33, (.v (.int .i64 (a1.length : Int)))), (34, (.v (.int .i64 x34_11))), (35, (.v (.bool (decide (x34_11 < (a1.length : Int))))))], []⟩) ?_ ?_
      · refine .cv (VOk.arith (op := .lss) (k := .i64) (a := x34_11) (b := (a1.length : Int)) rfl rfl rfl rfl) rfl rfl ?_
        exact .done (.rf rfl rfl)
      refine Ok.seq ?_
      refine Ok.test (b := (decide (x34_11 < (a1.length : Int)))) rfl (fun hb34 => ?_) (fun hb34 => ?_)
      · replace H := ifT H hb34
        refine Ok.skip ?_
        refine Ok.seq ?_
        refine Ok.block ?_
        refine Ok.seq ?_
        obtain ⟨c15, H⟩ := assertE H
        refine Ok.region (σ' := ⟨[(9, (S x9_10)), (11, (.bref 11 0)), (32, (L 2 e_api_Field a1)), (33, (.v (.int .i64 (a1.length : Int)))), (34, (.v (.int .i64 x34_11)))], [(11, (.box .ex [(S ((rd a1 x34_11).Name)), (S ((rd a1 x34_11).Value))]))]⟩) ?_ ?_
        · refine .cv (VOk.indexL (sz := 2) (e := e_api_Field) (xs := a1) (i := x34_11) rfl Tryd.underlying42 sz54 rfl rfl c15) rfl rfl ?_
          refine .cv (VOk.to (d' := (.agg (e_api_Field (rd a1 x34_11)))) (.loadFpAgg rfl Tryd.underlying54 rfl sz54 rfl rfl) rfl) rfl rfl ?_
          refine OpsOk.cons rfl (OpOk.alloc 11 [none, none] rfl zo54 rfl rfl) ?_
          refine OpsOk.cons rfl (OpOk.to (σ2 := St.put ⟨_, (11, (.box .ex [(S ((rd a1 x34_11).Name)), (S ((rd a1 x34_11).Value))])) :: _⟩ _ .junk) (.storeB rfl sz54 rfl rfl rfl rfl rfl rfl) rfl) ?_
          exact .done (.rf rfl rfl)
        refine Ok.seq ?_
        refine Ok.region (σ' := ⟨[(9, (S x9_10)), (11, (.bref 11 0)), (12, (S ((rd a1 x34_11).Value))), (32, (L 2 e_api_Field a1)), (33, (.v (.int .i64 (a1.length : Int)))), (34, (.v (.int .i64 x34_11)))], [(11, (.box .ex [(S ((rd a1 x34_11).Name)), (S ((rd a1 x34_11).Value))]))]⟩) ?_ ?_
        · refine .cv (VOk.to (VOk.fieldB rfl Tryd.underlying54 rfl sz9 rfl rfl) rfl) rfl rfl ?_
          refine .cv (VOk.loadB (d := (S ((rd a1 x34_11).Value))) rfl Tryd.underlying9 rfl rfl rfl rfl) rfl rfl ?_
          refine .cv (VOk.asg (d := (S ((rd a1 x34_11).Value))) rfl rfl) rfl rfl ?_
          exact .done (.rf rfl rfl)
        refine Ok.meet (fun σ => ∃ (x12_16 : Str), σ = ⟨[(9, (S x9_10)), (11, (.bref 11 0)), (12, (S x12_16)), (32, (L 2 e_api_Field a1)), (33, (.v (.int .i64 (a1.length : Int)))), (34, (.v (.int .i64 x34_11)))], [(11, (.box .ex [(S ((rd a1 x34_11).Name)), (S ((rd a1 x34_11).Value))]))]⟩ ∧ field_PrintType.j1 (field_PrintType.l0 k a1 m14) a1 x34_11 x9_10 x12_16 = some r) ?_ ?_
        · refine Ok.block ?_
          refine Ok.seq ?_
          obtain ⟨t21, h22, H⟩ := bindE H
          refine Ok.region (σ' := ⟨[(9, (S x9_10)), (11, (.bref 11 0)), (12, (S ((rd a1 x34_11).Value))), (32, (L 2 e_api_Field a1)), (33, (.v (.int .i64 (a1.length : Int)))), (34, (.v (.int .i64 x34_11))), (40, (.v (.bool (!t21))))], [(11, (.box .ex [(S ((rd a1 x34_11).Name)), (S ((rd a1 x34_11).Value))]))]⟩) ?_ ?_
          · refine .cv (VOk.to (VOk.fieldB rfl Tryd.underlying54 rfl sz9 rfl rfl) rfl) rfl rfl ?_
            refine .cv (VOk.loadB (d := (S ((rd a1 x34_11).Name))) rfl Tryd.underlying9 rfl rfl rfl rfl) rfl rfl ?_
            refine .cg (GOk.call rfl rfl cl16 rfl (field_Token.ok h22) rfl) rfl rfl ?_
            refine .cv (VOk.not (b := t21) rfl rfl) rfl rfl ?_
            refine .cv (VOk.asg (d := (.v (.bool (!t21)))) rfl rfl) rfl rfl ?_
            exact .done (.rf rfl rfl)
          refine Ok.test (b := (!t21)) rfl (fun hb33 => ?_) (fun hb33 => ?_)
          · replace H := ifT H hb33
            refine Ok.seq ?_
            refine Ok.region (σ' := ⟨[(4, (S ([] : Str))), (5, (.v (.int .i64 12)))], []⟩) ?_ ?_
            · refine .cv (VOk.asg (d := (S ([] : Str))) rfl rfl) rfl rfl ?_
              refine .cv (VOk.asg (d := (.v (.int .i64 12))) rfl rfl) rfl rfl ?_
              exact .done (.rf rfl rfl)
            refine Ok.ret ?_
            obtain rfl := Option.some.inj H
            exact ⟨.inl rfl, ⟨_, (.cons (.tmp rfl) (.cons (.tmp rfl) .nil)), rfl⟩, trivial⟩
          · replace H := ifF H hb33
            refine Ok.seq ?_
            obtain ⟨t24, h25, H⟩ := bindE H
            refine Ok.region (σ' := ⟨[(9, (S x9_10)), (11, (.bref 11 0)), (12, (S ((rd a1 x34_11).Value))), (32, (L 2 e_api_Field a1)), (33, (.v (.int .i64 (a1.length : Int)))), (34, (.v (.int .i64 x34_11))), (45, (.v (.bool ((!(((rd a1 x34_11).Value) == ([] : Str))) && (!t24)))))], [(11, (.box .ex [(S ((rd a1 x34_11).Name)), (S ((rd a1 x34_11).Value))]))]⟩) ?_ ?_
            · refine .cv (VOk.mv (d := (S ((rd a1 x34_11).Value))) rfl rfl) rfl rfl ?_
              refine .cv (VOk.strOp (op := .neq) (a := (rd a1 x34_11).Value) (b := ([] : Str)) rfl rfl rfl rfl) rfl rfl ?_
              refine .cv (VOk.mv (d := (.v (.bool (!(((rd a1 x34_11).Value) == ([] : Str)))))) rfl rfl) rfl rfl ?_
              refine OpsOk.consI rfl rfl rfl (.one rfl) rfl (fun hw23 => (VOk.g (VOk.mv (d := (S ((rd a1 x34_11).Value))) rfl rfl))) ?_
              refine OpsOk.consI rfl rfl rfl (.one rfl) rfl (fun hw23 => (GOk.fr (fr' := [(49, (S ((rd a1 x34_11).Value)))]) ⟨DLe.of_eq (cT hw23).symm, trivial⟩ (GOk.call rfl rfl cl35 rfl (field_all_2.ok (ifT h25 hw23)) rfl))) ?_
              refine OpsOk.consI rfl rfl rfl (.one rfl) rfl (fun hw23 => (GOk.fr (fr' := [(50, (.v (.bool t24)))]) ⟨DLe.of_eq (cT hw23).symm, trivial⟩ (VOk.g (VOk.not (b := t24) rfl rfl)))) ?_
              refine .cv (VOk.to (VOk.pickI (b := (!(((rd a1 x34_11).Value) == ([] : Str)))) (p := (!t24)) (q := false) rfl rfl (fun hp26 => (cT (t_beq hp26))) (fun hp26 => rfl)) (pickAnd (!(((rd a1 x34_11).Value) == ([] : Str))) (!t24))) rfl rfl ?_
              refine .cv (VOk.asg (d := (.v (.bool ((!(((rd a1 x34_11).Value) == ([] : Str))) && (!t24))))) rfl rfl) rfl rfl ?_
              exact .done (.rf rfl rfl)
            refine Ok.test (b := ((!(((rd a1 x34_11).Value) == ([] : Str))) && (!t24))) rfl (fun hb32 => ?_) (fun hb32 => ?_)
            · replace H := ifT H hb32
              refine Ok.seq ?_
              refine Ok.region (σ' := ⟨[(4, (S ([] : Str))), (5, (.v (.int .i64 4)))], []⟩) ?_ ?_
              · refine .cv (VOk.asg (d := (S ([] : Str))) rfl rfl) rfl rfl ?_
                refine .cv (VOk.asg (d := (.v (.int .i64 4))) rfl rfl) rfl rfl ?_
                exact .done (.rf rfl rfl)
              refine Ok.ret ?_
              obtain rfl := Option.some.inj H
              exact ⟨.inl rfl, ⟨_, (.cons (.tmp rfl) (.cons (.tmp rfl) .nil)), rfl⟩, trivial⟩
            · replace H := ifF H hb32
              refine Ok.seq ?_
              obtain ⟨t27, h28, H⟩ := bindE H
              refine Ok.region (σ' := ⟨[(9, (S x9_10)), (11, (.bref 11 0)), (12, (S ((rd a1 x34_11).Value))), (32, (L 2 e_api_Field a1)), (33, (.v (.int .i64 (a1.length : Int)))), (34, (.v (.int .i64 x34_11))), (53, (.v (.bool (!t27))))], [(11, (.box .ex [(S ((rd a1 x34_11).Name)), (S ((rd a1 x34_11).Value))]))]⟩) ?_ ?_
              · refine .cv (VOk.mv (d := (S ((rd a1 x34_11).Value))) rfl rfl) rfl rfl ?_
                refine .cg (GOk.call rfl rfl cl16 rfl (field_Token.ok h28) rfl) rfl rfl ?_
                refine .cv (VOk.not (b := t27) rfl rfl) rfl rfl ?_
                refine .cv (VOk.asg (d := (.v (.bool (!t27)))) rfl rfl) rfl rfl ?_
                exact .done (.rf rfl rfl)
              refine Ok.test (b := (!t27)) rfl (fun hb31 => ?_) (fun hb31 => ?_)
              · replace H := ifT H hb31
                obtain ⟨t29, h30, H⟩ := bindE H
                refine Ok.region (σ' := ⟨[(9, (S x9_10)), (11, (.bref 11 0)), (12, (S t29)), (32, (L 2 e_api_Field a1)), (33, (.v (.int .i64 (a1.length : Int)))), (34, (.v (.int .i64 x34_11)))], [(11, (.box .ex [(S ((rd a1 x34_11).Name)), (S ((rd a1 x34_11).Value))]))]⟩) ?_ ?_
                · refine .cv (VOk.mv (d := (S ((rd a1 x34_11).Value))) rfl rfl) rfl rfl ?_
                  refine .cg (GOk.call rfl rfl cl42 rfl (field_quote.ok h30) rfl) rfl rfl ?_
                  refine .cv (VOk.asg (d := (S t29)) rfl rfl) rfl rfl ?_
                  exact .done (.rf rfl rfl)
                exact ⟨t29, rfl, H⟩
              · replace H := ifF H hb31
                refine Ok.le (σ' := ⟨[(9, (S x9_10)), (11, (.bref 11 0)), (12, (S ((rd a1 x34_11).Value))), (32, (L 2 e_api_Field a1)), (33, (.v (.int .i64 (a1.length : Int)))), (34, (.v (.int .i64 x34_11)))], [(11, (.box .ex [(S ((rd a1 x34_11).Name)), (S ((rd a1 x34_11).Value))]))]⟩) (.rf rfl rfl) ?_
                refine Ok.skip ?_
                exact ⟨((rd a1 x34_11).Value), rfl, H⟩
        · rintro σ ⟨x12_16, rfl, H⟩
          unfold field_PrintType.j1 at H
          obtain ⟨c17, H⟩ := assertE H
          obtain ⟨c18, H⟩ := assertE H
          obtain ⟨c19, H⟩ := assertE H
          obtain ⟨c20, H⟩ := assertE H
          refine Ok.region (σ' := ⟨[(9, (S (x9_10 ++ (((([59, 32] : Str) ++ ((rd a1 x34_11).Name)) ++ ([61] : Str)) ++ x12_16)))), (32, (L 2 e_api_Field a1)), (33, (.v (.int .i64 (a1.length : Int)))), (34, (.v (.int .i64 x34_11)))], []⟩) ?_ ?_
          · refine .cv (VOk.mv (d := (S x9_10)) rfl rfl) rfl rfl ?_
            refine .cv (VOk.to (VOk.fieldB rfl Tryd.underlying54 rfl sz9 rfl rfl) rfl) rfl rfl ?_
            refine .cv (VOk.loadB (d := (S ((rd a1 x34_11).Name))) rfl Tryd.underlying9 rfl rfl rfl rfl) rfl rfl ?_
            refine .cv (VOk.cat (a := ([59, 32] : Str)) (b := (rd a1 x34_11).Name) rfl rfl rfl c17) rfl rfl ?_
            refine .cv (VOk.cat (a := (([59, 32] : Str) ++ ((rd a1 x34_11).Name))) (b := ([61] : Str)) rfl rfl rfl c18) rfl rfl ?_
            refine .cv (VOk.mv (d := (S x12_16)) rfl rfl) rfl rfl ?_
            refine .cv (VOk.cat (a := ((([59, 32] : Str) ++ ((rd a1 x34_11).Name)) ++ ([61] : Str))) (b := x12_16) rfl rfl rfl c19) rfl rfl ?_
            refine .cv (VOk.cat (a := x9_10) (b := (((([59, 32] : Str) ++ ((rd a1 x34_11).Name)) ++ ([61] : Str)) ++ x12_16)) rfl rfl rfl c20) rfl rfl ?_
            refine .cv (VOk.asg (d := (S (x9_10 ++ (((([59, 32] : Str) ++ ((rd a1 x34_11).Name)) ++ ([61] : Str)) ++ x12_16)))) rfl rfl) rfl rfl ?_
            exact .done (.rf rfl rfl)
          refine Ok.region (σ' := ⟨[(9, (S (x9_10 ++ (((([59, 32] : Str) ++ ((rd a1 x34_11).Name)) ++ ([61] : Str)) ++ x12_16)))), (32, (L 2 e_api_Field a1)), (33, (.v (.int .i64 (a1.length : Int)))), (34, (.v (.int .i64 (IntKind.i64.wrap (x34_11 + 1)))))], []⟩) ?_ ?_
          · refine .cv (VOk.arith (op := .add) (k := .i64) (a := x34_11) (b := 1) rfl rfl rfl rfl) rfl rfl ?_
            refine .cv (VOk.mv (d := (.v (.int .i64 (IntKind.i64.wrap (x34_11 + 1))))) rfl rfl) rfl rfl ?_
            exact .done (.rf rfl rfl)
          exact ⟨m14, Nat.lt_succ_self m14, (IntKind.i64.wrap (x34_11 + 1)), (x9_10 ++ (((([59, 32] : Str) ++ ((rd a1 x34_11).Name)) ++ ([61] : Str)) ++ x12_16)), rfl, H⟩
      · replace H := ifF H hb34
        refine Ok.exit ?_
        refine Ok.seq ?_
        refine Ok.region (σ' := ⟨[(4, (S x9_10)), (5, (.v (.int .i64 0)))], []⟩) ?_ ?_
        · refine .cv (VOk.mv (d := (S x9_10)) rfl rfl) rfl rfl ?_
          refine .cv (VOk.asg (d := (S x9_10)) rfl rfl) rfl rfl ?_
          refine .cv (VOk.asg (d := (.v (.int .i64 0))) rfl rfl) rfl rfl ?_
          exact .done (.rf rfl rfl)
        refine Ok.ret ?_
        obtain rfl := Option.some.inj H
        exact ⟨.inl rfl, ⟨_, (.cons (.tmp rfl) (.cons (.tmp rfl) .nil)), rfl⟩, trivial⟩

/-! watchbill/watchbillref07.Lower: function 26 -/
def watchbillref07_Lower.j1 (c0 : List Int → Int → Option Str) (a0 : Str) (y3_2 : List Int) (x4_1 : Int) (x5_7 : Int) : Option Str := (if (y3_2.length + ([x5_7] : List Int).length) * 1 ≤ 140737488355328 then c0 (y3_2 ++ ([x5_7] : List Int)) (IntKind.i64.wrap (x4_1 + 1)) else none)
def watchbillref07_Lower.l0 (k : Nat) (a0 : Str) : Nat → List Int → Int → Option Str
  | 0, _, _ => none
  | m5 + 1, y3_2, x4_1 => (if (decide (x4_1 < (a0.length : Int))) = true then (if (0 : Int) ≤ x4_1 ∧ x4_1 < (a0.length : Int) then (if ((decide ((bt a0 x4_1) ≥ 65)) && (decide ((bt a0 x4_1) ≤ 90))) = true then watchbillref07_Lower.j1 (watchbillref07_Lower.l0 k a0 m5) a0 y3_2 x4_1 (IntKind.u8.wrap ((bt a0 x4_1) + 32)) else watchbillref07_Lower.j1 (watchbillref07_Lower.l0 k a0 m5) a0 y3_2 x4_1 (bt a0 x4_1)) else none) else some (strOfBytes y3_2))
def watchbillref07_Lower (k : Nat) (a0 : Str) : Option Str := watchbillref07_Lower.l0 k a0 k ([] : List Int) 0
theorem watchbillref07_Lower.ok {k : Nat} {a0 : Str} {r : Str} (H : watchbillref07_Lower k a0 = some r) : Vx.Fn Tryd.prog 26 [(S a0)] [] (S r) [] := by
  unfold watchbillref07_Lower at H
  refine Vx.Fn.of_okR Tryd.func26 rfl (Nat.le_of_ble_eq_true rfl) ?_
  refine Ok.seq ?_
  refine Ok.region (σ' := ⟨[(0, (S a0))], []⟩) ?_ ?_
  · refine .cv (VOk.asg (d := (S ([] : Str))) rfl rfl) rfl rfl ?_
    exact .done (.rf rfl rfl)
  refine Ok.seq ?_
  refine Ok.region (σ' := ⟨[(0, (S a0)), (3, (.sref 3))], [(3, (.rows true 5 1 (([] : List Int).map (eI .u8))))]⟩) ?_ ?_
  · refine OpsOk.cons rfl (.nilT 3 5 1 (.inl rfl) rfl rfl) ?_
    exact .done (.rf rfl rfl)
  refine Ok.seq ?_
  refine Ok.seq ?_
  refine Ok.region (σ' := ⟨[(0, (S a0)), (3, (.sref 3)), (4, (.v (.int .i64 0)))], [(3, (.rows true 5 1 (([] : List Int).map (eI .u8))))]⟩) ?_ ?_
  · refine .cv (VOk.asg (d := (.v (.int .i64 0))) rfl rfl) rfl rfl ?_
    exact .done (.rf rfl rfl)
  refine Ok.block ?_
  refine Ok.le (σ' := ⟨[(0, (S a0)), (3, (.sref 3)), (4, (.v (.int .i64 0)))], [(3, (.rows true 5 1 (([] : List Int).map (eI .u8))))]⟩) (.rf rfl rfl) ?_
  refine Ok.loop (fun m5 σ => ∃ (y3_2 : List Int) (x4_1 : Int), σ = ⟨[(0, (S a0)), (3, (.sref 3)), (4, (.v (.int .i64 x4_1)))], [(3, (.rows true 5 1 (y3_2.map (eI .u8))))]⟩ ∧ watchbillref07_Lower.l0 k a0 m5 y3_2 x4_1 = some r) k ⟨([] : List Int), 0, rfl, H⟩ ?_
  rintro m5 σ ⟨y3_2, x4_1, rfl, H⟩
  cases m5 with
  | zero => exact absurd H (by simp [watchbillref07_Lower.l0])
  | succ m5 =>
    unfold watchbillref07_Lower.l0 at H
    refine Ok.seq ?_
    refine Ok.seq ?_
    refine Ok.region (σ' := ⟨[(0, (S a0)), (3, (.sref 3)), (4, (.v (.int .i64 x4_1))), (9, (.v (.bool (decide (x4_1 < (a0.length : Int))))))], [(3, (.rows true 5 1 (y3_2.map (eI .u8))))]⟩) ?_ ?_
    · refine .cv (VOk.mv (d := (.v (.int .i64 x4_1))) rfl rfl) rfl rfl ?_
      refine .cv (VOk.mv (d := (S a0)) rfl rfl) rfl rfl ?_
      refine .cv (VOk.lenStr (s := a0) rfl Tryd.underlying9 rfl) rfl rfl ?_
      refine .cv (VOk.arith (op := .lss) (k := .i64) (a := x4_1) (b := (a0.length : Int)) rfl rfl rfl rfl) rfl rfl ?_
      exact .done (.rf rfl rfl)
    refine Ok.test (b := (decide (x4_1 < (a0.length : Int)))) rfl (fun hb12 => ?_) (fun hb12 => ?_)
    · replace H := ifT H hb12
      refine Ok.skip ?_
      refine Ok.seq ?_
      refine Ok.block ?_
      refine Ok.seq ?_
      obtain ⟨c6, H⟩ := assertE H
      refine Ok.region (σ' := ⟨[(0, (S a0)), (3, (.sref 3)), (4, (.v (.int .i64 x4_1))), (5, (.v (.int .u8 (bt a0 x4_1))))], [(3, (.rows true 5 1 (y3_2.map (eI .u8))))]⟩) ?_ ?_
      · refine .cv (VOk.mv (d := (S a0)) rfl rfl) rfl rfl ?_
        refine .cv (VOk.mv (d := (.v (.int .i64 x4_1))) rfl rfl) rfl rfl ?_
        refine .cv (VOk.indexStr (s := a0) (i := x4_1) rfl Tryd.underlying9 rfl rfl c6) rfl rfl ?_
        refine .cv (VOk.asg (d := (.v (.int .u8 (bt a0 x4_1)))) rfl rfl) rfl rfl ?_
        exact .done (.rf rfl rfl)
      refine Ok.meet (fun σ => ∃ (x5_7 : Int), σ = ⟨[(0, (S a0)), (3, (.sref 3)), (4, (.v (.int .i64 x4_1))), (5, (.v (.int .u8 x5_7)))], [(3, (.rows true 5 1 (y3_2.map (eI .u8))))]⟩ ∧ watchbillref07_Lower.j1 (watchbillref07_Lower.l0 k a0 m5) a0 y3_2 x4_1 x5_7 = some r) ?_ ?_
      · refine Ok.seq ?_
        refine Ok.region (σ' := ⟨[(0, (S a0)), (3, (.sref 3)), (4, (.v (.int .i64 x4_1))), (5, (.v (.int .u8 (bt a0 x4_1)))), (20, (.v (.bool ((decide ((bt a0 x4_1) ≥ 65)) && (decide ((bt a0 x4_1) ≤ 90))))))], [(3, (.rows true 5 1 (y3_2.map (eI .u8))))]⟩) ?_ ?_
        · refine .cv (VOk.mv (d := (.v (.int .u8 (bt a0 x4_1)))) rfl rfl) rfl rfl ?_
          refine .cv (VOk.arith (op := .geq) (k := .u8) (a := (bt a0 x4_1)) (b := 65) rfl rfl rfl rfl) rfl rfl ?_
          refine .cv (VOk.mv (d := (.v (.bool (decide ((bt a0 x4_1) ≥ 65))))) rfl rfl) rfl rfl ?_
          refine OpsOk.consI rfl rfl rfl (.one rfl) rfl (fun hw9 => (VOk.g (VOk.mv (d := (.v (.int .u8 (bt a0 x4_1)))) rfl rfl))) ?_
          refine OpsOk.consI rfl rfl rfl (.one rfl) rfl (fun hw9 => (GOk.fr (fr' := [(18, (.v (.int .u8 (bt a0 x4_1))))]) ⟨DLe.of_eq (cT hw9).symm, trivial⟩ (VOk.g (VOk.arith (op := .leq) (k := .u8) (a := (bt a0 x4_1)) (b := 90) rfl rfl rfl rfl)))) ?_
          refine .cv (VOk.to (VOk.pickI (b := (decide ((bt a0 x4_1) ≥ 65))) (p := (decide ((bt a0 x4_1) ≤ 90))) (q := false) rfl rfl (fun hp10 => (cT (t_beq hp10))) (fun hp10 => rfl)) (pickAnd (decide ((bt a0 x4_1) ≥ 65)) (decide ((bt a0 x4_1) ≤ 90)))) rfl rfl ?_
          exact .done (.rf rfl rfl)
        refine Ok.test (b := ((decide ((bt a0 x4_1) ≥ 65)) && (decide ((bt a0 x4_1) ≤ 90)))) rfl (fun hb11 => ?_) (fun hb11 => ?_)
        · replace H := ifT H hb11
          refine Ok.region (σ' := ⟨[(0, (S a0)), (3, (.sref 3)), (4, (.v (.int .i64 x4_1))), (5, (.v (.int .u8 (IntKind.u8.wrap ((bt a0 x4_1) + 32)))))], [(3, (.rows true 5 1 (y3_2.map (eI .u8))))]⟩) ?_ ?_
          · refine .cv (VOk.mv (d := (.v (.int .u8 (bt a0 x4_1)))) rfl rfl) rfl rfl ?_
            refine .cv (VOk.arith (op := .add) (k := .u8) (a := (bt a0 x4_1)) (b := 32) rfl rfl rfl rfl) rfl rfl ?_
            refine .cv (VOk.asg (d := (.v (.int .u8 (IntKind.u8.wrap ((bt a0 x4_1) + 32))))) rfl rfl) rfl rfl ?_
            exact .done (.rf rfl rfl)
          exact ⟨(IntKind.u8.wrap ((bt a0 x4_1) + 32)), rfl, H⟩
        · replace H := ifF H hb11
          refine Ok.le (σ' := ⟨[(0, (S a0)), (3, (.sref 3)), (4, (.v (.int .i64 x4_1))), (5, (.v (.int .u8 (bt a0 x4_1))))], [(3, (.rows true 5 1 (y3_2.map (eI .u8))))]⟩) (.rf rfl rfl) ?_
          refine Ok.skip ?_
          exact ⟨(bt a0 x4_1), rfl, H⟩
      · rintro σ ⟨x5_7, rfl, H⟩
        unfold watchbillref07_Lower.j1 at H
        obtain ⟨c8, H⟩ := assertE H
        refine Ok.region (σ' := ⟨[(0, (S a0)), (3, (.sref 3)), (4, (.v (.int .i64 x4_1)))], [(3, (.rows true 5 1 ((y3_2 ++ ([x5_7] : List Int)).map (eI .u8))))]⟩) ?_ ?_
        · refine .cv (VOk.mv (d := (.sref 3)) rfl rfl) rfl rfl ?_
          refine .cv (VOk.mv (d := (.v (.int .u8 x5_7))) rfl rfl) rfl rfl ?_
          refine .cg (GOk.to (d' := (L 1 (eI .u8) ([x5_7] : List Int))) (GOk.lit rfl Tryd.underlying78 sz5 zs5 rfl rfl rfl rfl) rfl) rfl rfl ?_
          refine OpsOk.cons rfl (OpOk.appendL (e := (eI .u8)) (xs := y3_2) (ys := ([x5_7] : List Int)) rfl Tryd.underlying78 elt5 rfl rfl rfl c8 rfl) ?_
          refine .cv (VOk.asg (d := (.sref 3)) rfl rfl) rfl rfl ?_
          exact .done (.rf rfl rfl)
        refine Ok.region (σ' := ⟨[(0, (S a0)), (3, (.sref 3)), (4, (.v (.int .i64 (IntKind.i64.wrap (x4_1 + 1)))))], [(3, (.rows true 5 1 ((y3_2 ++ ([x5_7] : List Int)).map (eI .u8))))]⟩) ?_ ?_
        · refine .cv (VOk.mv (d := (.v (.int .i64 x4_1))) rfl rfl) rfl rfl ?_
          refine .cv (VOk.arith (op := .add) (k := .i64) (a := x4_1) (b := 1) rfl rfl rfl rfl) rfl rfl ?_
          refine .cv (VOk.asg (d := (.v (.int .i64 (IntKind.i64.wrap (x4_1 + 1))))) rfl rfl) rfl rfl ?_
          exact .done (.rf rfl rfl)
        exact ⟨m5, Nat.lt_succ_self m5, (y3_2 ++ ([x5_7] : List Int)), (IntKind.i64.wrap (x4_1 + 1)), rfl, H⟩
    · replace H := ifF H hb12
      refine Ok.exit ?_
      refine Ok.seq ?_
      refine Ok.region (σ' := ⟨[(2, (S (strOfBytes y3_2)))], []⟩) ?_ ?_
      · refine .cv (VOk.mv (d := (.sref 3)) rfl rfl) rfl rfl ?_
        refine .cv (VOk.bytesStrT (xs := y3_2) rfl Tryd.underlying78 Tryd.underlying5 Tryd.underlying9 rfl rfl) rfl rfl ?_
        refine .cv (VOk.asg (d := (S (strOfBytes y3_2))) rfl rfl) rfl rfl ?_
        exact .done (.rf rfl rfl)
      refine Ok.ret ?_
      obtain rfl := Option.some.inj H
      exact ⟨.inl rfl, ⟨_, (.cons (.tmp rfl) .nil), rfl⟩, trivial⟩

/-! watchbill/watchbilllaw07.FieldTypeBack: function 7 -/
def watchbilllaw07_FieldTypeBack.l1 (k : Nat) (c0 : Bool → Int → Option Bool) (a0 : Str) (a1 : List T_api_Field) (t11 : Str × (List T_api_Field) × Int) (x11_14 : Int) : Nat → Bool → Int → Option Bool
  | 0, _, _ => none
  | m22 + 1, x10_18, x12_19 => (if (decide (x12_19 < x11_14)) = true then (if ((x10_18 == false) = true → (0 : Int) ≤ x11_14 ∧ x11_14 < (a1.length : Int)) then (((if (x10_18 == false) = true then watchbillref07_Lower k ((rd a1 x11_14).Name) else some default)).bind fun (t25 : Str) => (if ((x10_18 == false) = true → (0 : Int) ≤ x12_19 ∧ x12_19 < (a1.length : Int)) then (((if (x10_18 == false) = true then watchbillref07_Lower k ((rd a1 x12_19).Name) else some default)).bind fun (t28 : Str) => watchbilllaw07_FieldTypeBack.l1 k c0 a0 a1 t11 x11_14 m22 (x10_18 || (t25 == t28)) (IntKind.i64.wrap (x12_19 + 1))) else none)) else none) else c0 x10_18 (IntKind.i64.wrap (x11_14 + 1)))
def watchbilllaw07_FieldTypeBack.l2 (k : Nat) (a1 : List T_api_Field) (t11 : Str × (List T_api_Field) × Int) : Nat → Int → Option Bool
  | 0, _ => none
  | m44 + 1, x13_42 => (if (decide (x13_42 < (a1.length : Int))) = true then (if (0 : Int) ≤ x13_42 ∧ x13_42 < (t11.2.1.length : Int) then (if (0 : Int) ≤ x13_42 ∧ x13_42 < (a1.length : Int) then ((watchbillref07_Lower k ((rd a1 x13_42).Name)).bind fun (t47 : Str) => (if (((!(((rd t11.2.1 x13_42).Name) == t47)) == false) = true → (0 : Int) ≤ x13_42 ∧ x13_42 < (t11.2.1.length : Int)) then (if (((!(((rd t11.2.1 x13_42).Name) == t47)) == false) = true → (0 : Int) ≤ x13_42 ∧ x13_42 < (a1.length : Int)) then (if ((!(((rd t11.2.1 x13_42).Name) == t47)) || (!(((rd t11.2.1 x13_42).Value) == ((rd a1 x13_42).Value)))) = true then some false else (if (0 : Int) ≤ x13_42 ∧ x13_42 < (a1.length : Int) then ((field_Param k t11.2.1 ((rd a1 x13_42).Name)).bind fun (t54 : Str × Bool) => (if (((!t54.2) == false) = true → (0 : Int) ≤ x13_42 ∧ x13_42 < (a1.length : Int)) then (if ((!t54.2) || (!(t54.1 == ((rd a1 x13_42).Value)))) = true then some false else watchbilllaw07_FieldTypeBack.l2 k a1 t11 m44 (IntKind.i64.wrap (x13_42 + 1))) else none)) else none)) else none) else none)) else none) else none) else some true)
def watchbilllaw07_FieldTypeBack.l0 (k : Nat) (a0 : Str) (a1 : List T_api_Field) (t11 : Str × (List T_api_Field) × Int) : Nat → Bool → Int → Option Bool
  | 0, _, _ => none
  | m17 + 1, x10_13, x11_14 => (if (decide (x11_14 < (a1.length : Int))) = true then watchbilllaw07_FieldTypeBack.l1 k (watchbilllaw07_FieldTypeBack.l0 k a0 a1 t11 m17) a0 a1 t11 x11_14 k x10_13 0 else (if x10_13 = true then some (((t11.2.2 == 4) && (t11.1 == ([] : Str))) && ((t11.2.1.length : Int) == 0)) else (((if ((t11.2.2 != 0) == false) = true then watchbillref07_Lower k a0 else some default)).bind fun (t37 : Str) => (if (((t11.2.2 != 0) || (!(t11.1 == t37))) || ((t11.2.1.length : Int) != (a1.length : Int))) = true then some false else watchbilllaw07_FieldTypeBack.l2 k a1 t11 k 0))))
def watchbilllaw07_FieldTypeBack (k : Nat) (a0 : Str) (a1 : List T_api_Field) : Option Bool := ((watchbilllaw07_awake k).bind fun (t1 : Bool) => (if (!t1) = true then some false else (((if ((decide ((a0.length : Int) > 5000)) == false) = true then watchbilllaw07_FewParams k a1 else some default)).bind fun (t4 : Bool) => (if ((decide ((a0.length : Int) > 5000)) || (!t4)) = true then some true else ((field_PrintType k a0 a1).bind fun (t7 : Str × Int) => (if (t7.2 != 0) = true then some (t7.1 == ([] : Str)) else (if ([32, 9] : Str).length + t7.1.length ≤ 9223372036854775807 then (if (([32, 9] : Str) ++ t7.1).length + ([32] : Str).length ≤ 9223372036854775807 then ((field_ParseType k ((([32, 9] : Str) ++ t7.1) ++ ([32] : Str))).bind fun (t11 : Str × (List T_api_Field) × Int) => watchbilllaw07_FieldTypeBack.l0 k a0 a1 t11 k false 0) else none) else none)))))))
theorem watchbilllaw07_FieldTypeBack.ok {k : Nat} {a0 : Str} {a1 : List T_api_Field} {r : Bool} (H : watchbilllaw07_FieldTypeBack k a0 a1 = some r) : Vx.Fn Tryd.prog 7 [(S a0), (L 2 e_api_Field a1)] [] (.v (.bool r)) [] := by
  unfold watchbilllaw07_FieldTypeBack at H
  refine Vx.Fn.of_okR Tryd.func7 rfl (Nat.le_of_ble_eq_true rfl) ?_
  refine Ok.seq ?_
  refine Ok.region (σ' := ⟨[(0, (S a0)), (1, (L 2 e_api_Field a1))], []⟩) ?_ ?_
  · refine .cv (VOk.asg (d := (.v (.bool false))) rfl rfl) rfl rfl ?_
    exact .done (.rf rfl rfl)
  refine Ok.seq ?_
  refine Ok.seq ?_
  obtain ⟨t1, h2, H⟩ := bindE H
  refine Ok.region (σ' := ⟨[(0, (S a0)), (1, (L 2 e_api_Field a1)), (17, (.v (.bool (!t1))))], []⟩) ?_ ?_
  · refine .cg (GOk.call rfl rfl cl8 rfl (watchbilllaw07_awake.ok h2) rfl) rfl rfl ?_
    refine .cv (VOk.not (b := t1) rfl rfl) rfl rfl ?_
    exact .done (.rf rfl rfl)
  refine Ok.test (b := (!t1)) rfl (fun hb67 => ?_) (fun hb67 => ?_)
  · replace H := ifT H hb67
    refine Ok.seq ?_
    refine Ok.region (σ' := ⟨[(4, (.v (.bool false)))], []⟩) ?_ ?_
    · refine .cv (VOk.asg (d := (.v (.bool false))) rfl rfl) rfl rfl ?_
      exact .done (.rf rfl rfl)
    refine Ok.ret ?_
    obtain rfl := Option.some.inj H
    exact ⟨.inl rfl, ⟨_, (.cons (.tmp rfl) .nil), rfl⟩, trivial⟩
  · replace H := ifF H hb67
    refine Ok.skip ?_
    refine Ok.seq ?_
    refine Ok.seq ?_
    obtain ⟨t4, h5, H⟩ := bindE H
    refine Ok.region (σ' := ⟨[(0, (S a0)), (1, (L 2 e_api_Field a1)), (25, (.v (.bool ((decide ((a0.length : Int) > 5000)) || (!t4)))))], []⟩) ?_ ?_
    · refine .cv (VOk.mv (d := (S a0)) rfl rfl) rfl rfl ?_
      refine .cv (VOk.lenStr (s := a0) rfl Tryd.underlying9 rfl) rfl rfl ?_
      refine .cv (VOk.arith (op := .gtr) (k := .i64) (a := (a0.length : Int)) (b := 5000) rfl rfl rfl rfl) rfl rfl ?_
      refine .cv (VOk.mv (d := (.v (.bool (decide ((a0.length : Int) > 5000))))) rfl rfl) rfl rfl ?_
      refine OpsOk.consI rfl rfl rfl (.one rfl) rfl (fun hw3 => (VOk.g (VOk.mv (d := (L 2 e_api_Field a1)) rfl rfl))) ?_
      refine OpsOk.consI rfl rfl rfl (.one rfl) rfl (fun hw3 => (GOk.fr (fr' := [(22, (L 2 e_api_Field a1))]) ⟨DLe.of_eq (cT hw3).symm, trivial⟩ (GOk.call rfl rfl cl18 rfl (watchbilllaw07_FewParams.ok (ifT h5 hw3)) rfl))) ?_
      refine OpsOk.consI rfl rfl rfl (.one rfl) rfl (fun hw3 => (GOk.fr (fr' := [(23, (.v (.bool t4)))]) ⟨DLe.of_eq (cT hw3).symm, trivial⟩ (VOk.g (VOk.not (b := t4) rfl rfl)))) ?_
      refine .cv (VOk.to (VOk.pickI (b := (decide ((a0.length : Int) > 5000))) (p := true) (q := (!t4)) rfl rfl (fun hp6 => rfl) (fun hp6 => (cT (f_beq hp6)))) (pickOr (decide ((a0.length : Int) > 5000)) (!t4))) rfl rfl ?_
      exact .done (.rf rfl rfl)
    refine Ok.test (b := ((decide ((a0.length : Int) > 5000)) || (!t4))) rfl (fun hb66 => ?_) (fun hb66 => ?_)
    · replace H := ifT H hb66
      refine Ok.seq ?_
      refine Ok.region (σ' := ⟨[(4, (.v (.bool true)))], []⟩) ?_ ?_
      · refine .cv (VOk.asg (d := (.v (.bool true))) rfl rfl) rfl rfl ?_
        exact .done (.rf rfl rfl)
      refine Ok.ret ?_
      obtain rfl := Option.some.inj H
      exact ⟨.inl rfl, ⟨_, (.cons (.tmp rfl) .nil), rfl⟩, trivial⟩
    · replace H := ifF H hb66
      refine Ok.skip ?_
      refine Ok.seq ?_
      obtain ⟨t7, h8, H⟩ := bindE H
      refine Ok.region (σ' := ⟨[(0, (S a0)), (1, (L 2 e_api_Field a1)), (5, (S t7.1)), (6, (.v (.int .i64 t7.2)))], []⟩) ?_ ?_
      · refine .cv (VOk.mv (d := (S a0)) rfl rfl) rfl rfl ?_
        refine .cv (VOk.mv (d := (L 2 e_api_Field a1)) rfl rfl) rfl rfl ?_
        refine .cg (GOk.call rfl rfl cl19 rfl (field_PrintType.ok h8) rfl) rfl rfl ?_
        refine .cv (VOk.mv (d := (.tup [(S t7.1), (.v (.int .i64 t7.2))])) rfl rfl) rfl rfl ?_
        refine .cv (VOk.extract (d := (S t7.1)) rfl rfl rfl) rfl rfl ?_
        refine .cv (VOk.extract (d := (.v (.int .i64 t7.2))) rfl rfl rfl) rfl rfl ?_
        refine .cv (VOk.asg (d := (S t7.1)) rfl rfl) rfl rfl ?_
        refine .cv (VOk.asg (d := (.v (.int .i64 t7.2))) rfl rfl) rfl rfl ?_
        exact .done (.rf rfl rfl)
      refine Ok.seq ?_
      refine Ok.seq ?_
      refine Ok.region (σ' := ⟨[(0, (S a0)), (1, (L 2 e_api_Field a1)), (5, (S t7.1)), (33, (.v (.bool (t7.2 != 0))))], []⟩) ?_ ?_
      · refine .cv (VOk.mv (d := (.v (.int .i64 t7.2))) rfl rfl) rfl rfl ?_
        refine .cv (VOk.arith (op := .neq) (k := .i64) (a := t7.2) (b := 0) rfl rfl rfl rfl) rfl rfl ?_
        exact .done (.rf rfl rfl)
      refine Ok.test (b := (t7.2 != 0)) rfl (fun hb65 => ?_) (fun hb65 => ?_)
      · replace H := ifT H hb65
        refine Ok.seq ?_
        refine Ok.region (σ' := ⟨[(4, (.v (.bool (t7.1 == ([] : Str)))))], []⟩) ?_ ?_
        · refine .cv (VOk.mv (d := (S t7.1)) rfl rfl) rfl rfl ?_
          refine .cv (VOk.strOp (op := .eql) (a := t7.1) (b := ([] : Str)) rfl rfl rfl rfl) rfl rfl ?_
          refine .cv (VOk.asg (d := (.v (.bool (t7.1 == ([] : Str))))) rfl rfl) rfl rfl ?_
          exact .done (.rf rfl rfl)
        refine Ok.ret ?_
        obtain rfl := Option.some.inj H
        exact ⟨.inl rfl, ⟨_, (.cons (.tmp rfl) .nil), rfl⟩, trivial⟩
      · replace H := ifF H hb65
        refine Ok.skip ?_
        refine Ok.seq ?_
        obtain ⟨c9, H⟩ := assertE H
        obtain ⟨c10, H⟩ := assertE H
        obtain ⟨t11, h12, H⟩ := bindE H
        refine Ok.region (σ' := ⟨[(0, (S a0)), (1, (L 2 e_api_Field a1)), (7, (S t11.1)), (8, (L 2 e_api_Field t11.2.1)), (9, (.v (.int .i64 t11.2.2)))], []⟩) ?_ ?_
        · refine .cv (VOk.mv (d := (S t7.1)) rfl rfl) rfl rfl ?_
          refine .cv (VOk.cat (a := ([32, 9] : Str)) (b := t7.1) rfl rfl rfl c9) rfl rfl ?_
          refine .cv (VOk.cat (a := (([32, 9] : Str) ++ t7.1)) (b := ([32] : Str)) rfl rfl rfl c10) rfl rfl ?_
          refine .cg (GOk.call rfl rfl cl21 rfl (field_ParseType.ok h12) rfl) rfl rfl ?_
          refine .cv (VOk.mv (d := (.tup [(S t11.1), (L 2 e_api_Field t11.2.1), (.v (.int .i64 t11.2.2))])) rfl rfl) rfl rfl ?_
          refine .cv (VOk.extract (d := (S t11.1)) rfl rfl rfl) rfl rfl ?_
          refine .cv (VOk.extract (d := (L 2 e_api_Field t11.2.1)) rfl rfl rfl) rfl rfl ?_
          refine .cv (VOk.extract (d := (.v (.int .i64 t11.2.2))) rfl rfl rfl) rfl rfl ?_
          refine .cv (VOk.asg (d := (S t11.1)) rfl rfl) rfl rfl ?_
          refine .cv (VOk.asg (d := (L 2 e_api_Field t11.2.1)) rfl rfl) rfl rfl ?_
          refine .cv (VOk.asg (d := (.v (.int .i64 t11.2.2))) rfl rfl) rfl rfl ?_
          exact .done (.rf rfl rfl)
        refine Ok.seq ?_
        refine Ok.region (σ' := ⟨[(0, (S a0)), (1, (L 2 e_api_Field a1)), (7, (S t11.1)), (8, (L 2 e_api_Field t11.2.1)), (9, (.v (.int .i64 t11.2.2))), (10, (.v (.bool false)))], []⟩) ?_ ?_
        · refine .cv (VOk.asg (d := (.v (.bool false))) rfl rfl) rfl rfl ?_
          exact .done (.rf rfl rfl)
        refine Ok.seq ?_
        refine Ok.seq ?_
        refine Ok.region (σ' := ⟨[(0, (S a0)), (1, (L 2 e_api_Field a1)), (7, (S t11.1)), (8, (L 2 e_api_Field t11.2.1)), (9, (.v (.int .i64 t11.2.2))), (10, (.v (.bool false))), (11, (.v (.int .i64 0)))], []⟩) ?_ ?_
        · refine .cv (VOk.asg (d := (.v (.int .i64 0))) rfl rfl) rfl rfl ?_
          exact .done (.rf rfl rfl)
        refine Ok.block ?_
        refine Ok.le (σ' := ⟨[(0, (S a0)), (1, (L 2 e_api_Field a1)), (7, (S t11.1)), (8, (L 2 e_api_Field t11.2.1)), (9, (.v (.int .i64 t11.2.2))), (10, (.v (.bool false))), (11, (.v (.int .i64 0)))], []⟩) (.rf rfl rfl) ?_
        refine Ok.loop (fun m17 σ => ∃ (x10_13 : Bool) (x11_14 : Int), σ = ⟨[(0, (S a0)), (1, (L 2 e_api_Field a1)), (7, (S t11.1)), (8, (L 2 e_api_Field t11.2.1)), (9, (.v (.int .i64 t11.2.2))), (10, (.v (.bool x10_13))), (11, (.v (.int .i64 x11_14)))], []⟩ ∧ watchbilllaw07_FieldTypeBack.l0 k a0 a1 t11 m17 x10_13 x11_14 = some r) k ⟨false, 0, rfl, H⟩ ?_
        rintro m17 σ ⟨x10_13, x11_14, rfl, H⟩
        cases m17 with
        | zero => exact absurd H (by simp [watchbilllaw07_FieldTypeBack.l0])
        | succ m17 =>
          unfold watchbilllaw07_FieldTypeBack.l0 at H
          refine Ok.seq ?_
          refine Ok.seq ?_
          refine Ok.region (σ' := ⟨[(0, (S a0)), (1, (L 2 e_api_Field a1)), (7, (S t11.1)), (8, (L 2 e_api_Field t11.2.1)), (9, (.v (.int .i64 t11.2.2))), (10, (.v (.bool x10_13))), (11, (.v (.int .i64 x11_14))), (47, (.v (.bool (decide (x11_14 < (a1.length : Int))))))], []⟩) ?_ ?_
          · refine .cv (VOk.mv (d := (.v (.int .i64 x11_14))) rfl rfl) rfl rfl ?_
            refine .cv (VOk.mv (d := (L 2 e_api_Field a1)) rfl rfl) rfl rfl ?_
            refine .cv (VOk.lenL (e := e_api_Field) (xs := a1) rfl Tryd.underlying42 rfl) rfl rfl ?_
            refine .cv (VOk.arith (op := .lss) (k := .i64) (a := x11_14) (b := (a1.length : Int)) rfl rfl rfl rfl) rfl rfl ?_
            exact .done (.rf rfl rfl)
          refine Ok.test (b := (decide (x11_14 < (a1.length : Int)))) rfl (fun hb64 => ?_) (fun hb64 => ?_)
          · replace H := ifT H hb64
            refine Ok.skip ?_
            refine Ok.seq ?_
            refine Ok.block ?_
            refine Ok.seq ?_
            refine Ok.region (σ' := ⟨[(0, (S a0)), (1, (L 2 e_api_Field a1)), (7, (S t11.1)), (8, (L 2 e_api_Field t11.2.1)), (9, (.v (.int .i64 t11.2.2))), (10, (.v (.bool x10_13))), (11, (.v (.int .i64 x11_14))), (12, (.v (.int .i64 0)))], []⟩) ?_ ?_
            · refine .cv (VOk.asg (d := (.v (.int .i64 0))) rfl rfl) rfl rfl ?_
              exact .done (.rf rfl rfl)
            refine Ok.block ?_
            refine Ok.le (σ' := ⟨[(0, (S a0)), (1, (L 2 e_api_Field a1)), (7, (S t11.1)), (8, (L 2 e_api_Field t11.2.1)), (9, (.v (.int .i64 t11.2.2))), (10, (.v (.bool x10_13))), (11, (.v (.int .i64 x11_14))), (12, (.v (.int .i64 0)))], []⟩) (.rf rfl rfl) ?_
            refine Ok.loop (fun m22 σ => ∃ (x10_18 : Bool) (x12_19 : Int), σ = ⟨[(0, (S a0)), (1, (L 2 e_api_Field a1)), (7, (S t11.1)), (8, (L 2 e_api_Field t11.2.1)), (9, (.v (.int .i64 t11.2.2))), (10, (.v (.bool x10_18))), (11, (.v (.int .i64 x11_14))), (12, (.v (.int .i64 x12_19)))], []⟩ ∧ watchbilllaw07_FieldTypeBack.l1 k (watchbilllaw07_FieldTypeBack.l0 k a0 a1 t11 m17) a0 a1 t11 x11_14 m22 x10_18 x12_19 = some r) k ⟨x10_13, 0, rfl, H⟩ ?_
            rintro m22 σ ⟨x10_18, x12_19, rfl, H⟩
            cases m22 with
            | zero => exact absurd H (by simp [watchbilllaw07_FieldTypeBack.l1])
            | succ m22 =>
              unfold watchbilllaw07_FieldTypeBack.l1 at H
              refine Ok.seq ?_
              refine Ok.seq ?_
              refine Ok.region (σ' := ⟨[(0, (S a0)), (1, (L 2 e_api_Field a1)), (7, (S t11.1)), (8, (L 2 e_api_Field t11.2.1)), (9, (.v (.int .i64 t11.2.2))), (10, (.v (.bool x10_18))), (11, (.v (.int .i64 x11_14))), (12, (.v (.int .i64 x12_19))), (52, (.v (.bool (decide (x12_19 < x11_14)))))], []⟩) ?_ ?_
              · refine .cv (VOk.mv (d := (.v (.int .i64 x12_19))) rfl rfl) rfl rfl ?_
                refine .cv (VOk.mv (d := (.v (.int .i64 x11_14))) rfl rfl) rfl rfl ?_
                refine .cv (VOk.arith (op := .lss) (k := .i64) (a := x12_19) (b := x11_14) rfl rfl rfl rfl) rfl rfl ?_
                exact .done (.rf rfl rfl)
              refine Ok.test (b := (decide (x12_19 < x11_14))) rfl (fun hb31 => ?_) (fun hb31 => ?_)
              · replace H := ifT H hb31
                refine Ok.skip ?_
                refine Ok.seq ?_
                refine Ok.block ?_
                obtain ⟨c24, H⟩ := assertE H
                obtain ⟨t25, h26, H⟩ := bindE H
                obtain ⟨c27, H⟩ := assertE H
                obtain ⟨t28, h29, H⟩ := bindE H
                refine Ok.drawE (σ' := ⟨[(0, (S a0)), (1, (L 2 e_api_Field a1)), (7, (S t11.1)), (8, (L 2 e_api_Field t11.2.1)), (9, (.v (.int .i64 t11.2.2))), (10, (.v (.bool (x10_18 || (t25 == t28))))), (11, (.v (.int .i64 x11_14))), (12, (.v (.int .i64 x12_19)))], []⟩) [⟨true, [(10, (.v (.bool x10_18)))], (.v (.bool x10_18))⟩, ⟨true, [(55, (.v (.bool x10_18)))], (.v (.bool x10_18))⟩, It.I (x10_18 == false) [(1, (L 2 e_api_Field a1)), (56, (.v (.bool x10_18)))] (L 2 e_api_Field a1), It.I (x10_18 == false) [(11, (.v (.int .i64 x11_14))), (56, (.v (.bool x10_18)))] (.v (.int .i64 x11_14)), It.I (x10_18 == false) [(57, (bif (x10_18 == false) then (L 2 e_api_Field a1) else .v undef)), (58, (bif (x10_18 == false) then (.v (.int .i64 x11_14)) else .v undef)), (56, (.v (.bool x10_18)))] (.fp (e_api_Field (rd a1 x11_14)) 0), It.I (x10_18 == false) [(59, (bif (x10_18 == false) then (.fp (e_api_Field (rd a1 x11_14)) 0) else .v undef)), (56, (.v (.bool x10_18)))] (.fp (e_api_Field (rd a1 x11_14)) 0), It.I (x10_18 == false) [(60, (bif (x10_18 == false) then (.fp (e_api_Field (rd a1 x11_14)) 0) else .v undef)), (56, (.v (.bool x10_18)))] (S ((rd a1 x11_14).Name)), It.I (x10_18 == false) [(61, (bif (x10_18 == false) then (S ((rd a1 x11_14).Name)) else .v undef)), (56, (.v (.bool x10_18)))] (S t25), It.I (x10_18 == false) [(1, (L 2 e_api_Field a1)), (56, (.v (.bool x10_18)))] (L 2 e_api_Field a1), It.I (x10_18 == false) [(12, (.v (.int .i64 x12_19))), (56, (.v (.bool x10_18)))] (.v (.int .i64 x12_19)), It.I (x10_18 == false) [(63, (bif (x10_18 == false) then (L 2 e_api_Field a1) else .v undef)), (64, (bif (x10_18 == false) then (.v (.int .i64 x12_19)) else .v undef)), (56, (.v (.bool x10_18)))] (.fp (e_api_Field (rd a1 x12_19)) 0), It.I (x10_18 == false) [(65, (bif (x10_18 == false) then (.fp (e_api_Field (rd a1 x12_19)) 0) else .v undef)), (56, (.v (.bool x10_18)))] (.fp (e_api_Field (rd a1 x12_19)) 0), It.I (x10_18 == false) [(66, (bif (x10_18 == false) then (.fp (e_api_Field (rd a1 x12_19)) 0) else .v undef)), (56, (.v (.bool x10_18)))] (S ((rd a1 x12_19).Name)), It.I (x10_18 == false) [(67, (bif (x10_18 == false) then (S ((rd a1 x12_19).Name)) else .v undef)), (56, (.v (.bool x10_18)))] (S t28), It.I (x10_18 == false) [(62, (bif (x10_18 == false) then (S t25) else .v undef)), (68, (bif (x10_18 == false) then (S t28) else .v undef)), (56, (.v (.bool x10_18)))] (.v (.bool (t25 == t28))), ⟨true, [(56, (.v (.bool x10_18))), (69, (bif (x10_18 == false) then (.v (.bool (t25 == t28))) else .v undef))], (.v (.bool (x10_18 || (t25 == t28))))⟩, ⟨true, [(70, (.v (.bool (x10_18 || (t25 == t28)))))], (.v (.bool (x10_18 || (t25 == t28))))⟩] [[], [0], [1], [1], [1, 2, 3], [1, 4], [1, 5], [1, 6], [1], [1], [1, 8, 9], [1, 10], [1, 11], [1, 12], [1, 7, 13], [1, 14], [0, 15]] mixed (by kernel_rfl) ?_ ?_
                · refine TxtE.cons rfl ⟨.same _, trivial⟩ rfl (VOk.g (VOk.mv (d := (.v (.bool x10_18))) rfl rfl)) ?_
                  refine TxtE.cons rfl ⟨.same _, trivial⟩ rfl (VOk.g (VOk.mv (d := (.v (.bool x10_18))) rfl rfl)) ?_
                  refine TxtE.consI rfl ⟨.same _, .same _, trivial⟩ rfl rfl (.one rfl) (fun hw23 => (VOk.g (VOk.mv (d := (L 2 e_api_Field a1)) rfl rfl))) ?_
                  refine TxtE.consI rfl ⟨.same _, .same _, trivial⟩ rfl rfl (.one rfl) (fun hw23 => (VOk.g (VOk.mv (d := (.v (.int .i64 x11_14))) rfl rfl))) ?_
                  refine TxtE.consI rfl ⟨.same _, .same _, .same _, trivial⟩ rfl rfl (.one rfl) (fun hw23 => (GOk.fr (fr' := [(57, (L 2 e_api_Field a1)), (58, (.v (.int .i64 x11_14)))]) ⟨DLe.of_eq (cT hw23).symm, DLe.of_eq (cT hw23).symm, trivial⟩ (VOk.g (VOk.indexL (sz := 2) (e := e_api_Field) (xs := a1) (i := x11_14) rfl Tryd.underlying42 sz54 rfl rfl (c24 hw23))))) ?_
                  refine TxtE.consI rfl ⟨.same _, .same _, trivial⟩ rfl rfl (.one rfl) (fun hw23 => (GOk.fr (fr' := [(59, (.fp (e_api_Field (rd a1 x11_14)) 0))]) ⟨DLe.of_eq (cT hw23).symm, trivial⟩ (VOk.g (VOk.to (VOk.fieldFp rfl Tryd.underlying54 rfl sz9 rfl) rfl)))) ?_
                  refine TxtE.consI rfl ⟨.same _, .same _, trivial⟩ rfl rfl (.one rfl) (fun hw23 => (GOk.fr (fr' := [(60, (.fp (e_api_Field (rd a1 x11_14)) 0))]) ⟨DLe.of_eq (cT hw23).symm, trivial⟩ (VOk.g (VOk.loadFp (d := (S ((rd a1 x11_14).Name))) rfl Tryd.underlying9 rfl rfl rfl)))) ?_
                  refine TxtE.consI rfl ⟨.same _, .same _, trivial⟩ rfl rfl (.one rfl) (fun hw23 => (GOk.fr (fr' := [(61, (S ((rd a1 x11_14).Name)))]) ⟨DLe.of_eq (cT hw23).symm, trivial⟩ (GOk.call rfl rfl cl26 rfl (watchbillref07_Lower.ok (ifT h26 hw23)) rfl))) ?_
                  refine TxtE.consI rfl ⟨.same _, .same _, trivial⟩ rfl rfl (.one rfl) (fun hw23 => (VOk.g (VOk.mv (d := (L 2 e_api_Field a1)) rfl rfl))) ?_
                  refine TxtE.consI rfl ⟨.same _, .same _, trivial⟩ rfl rfl (.one rfl) (fun hw23 => (VOk.g (VOk.mv (d := (.v (.int .i64 x12_19))) rfl rfl))) ?_
                  refine TxtE.consI rfl ⟨.same _, .same _, .same _, trivial⟩ rfl rfl (.one rfl) (fun hw23 => (GOk.fr (fr' := [(63, (L 2 e_api_Field a1)), (64, (.v (.int .i64 x12_19)))]) ⟨DLe.of_eq (cT hw23).symm, DLe.of_eq (cT hw23).symm, trivial⟩ (VOk.g (VOk.indexL (sz := 2) (e := e_api_Field) (xs := a1) (i := x12_19) rfl Tryd.underlying42 sz54 rfl rfl (c27 hw23))))) ?_
                  refine TxtE.consI rfl ⟨.same _, .same _, trivial⟩ rfl rfl (.one rfl) (fun hw23 => (GOk.fr (fr' := [(65, (.fp (e_api_Field (rd a1 x12_19)) 0))]) ⟨DLe.of_eq (cT hw23).symm, trivial⟩ (VOk.g (VOk.to (VOk.fieldFp rfl Tryd.underlying54 rfl sz9 rfl) rfl)))) ?_
                  refine TxtE.consI rfl ⟨.same _, .same _, trivial⟩ rfl rfl (.one rfl) (fun hw23 => (GOk.fr (fr' := [(66, (.fp (e_api_Field (rd a1 x12_19)) 0))]) ⟨DLe.of_eq (cT hw23).symm, trivial⟩ (VOk.g (VOk.loadFp (d := (S ((rd a1 x12_19).Name))) rfl Tryd.underlying9 rfl rfl rfl)))) ?_
                  refine TxtE.consI rfl ⟨.same _, .same _, trivial⟩ rfl rfl (.one rfl) (fun hw23 => (GOk.fr (fr' := [(67, (S ((rd a1 x12_19).Name)))]) ⟨DLe.of_eq (cT hw23).symm, trivial⟩ (GOk.call rfl rfl cl26 rfl (watchbillref07_Lower.ok (ifT h29 hw23)) rfl))) ?_
                  refine TxtE.consI rfl ⟨.same _, .same _, .same _, trivial⟩ rfl rfl (.one rfl) (fun hw23 => (GOk.fr (fr' := [(62, (S t25)), (68, (S t28))]) ⟨DLe.of_eq (cT hw23).symm, DLe.of_eq (cT hw23).symm, trivial⟩ (VOk.g (VOk.strOp (op := .eql) (a := t25) (b := t28) rfl rfl rfl rfl)))) ?_
                  refine TxtE.cons rfl ⟨.same _, .same _, trivial⟩ rfl (VOk.g (VOk.to (VOk.pickI (b := x10_18) (p := true) (q := (t25 == t28)) rfl rfl (fun hp30 => rfl) (fun hp30 => (cT (f_beq hp30)))) (pickOr x10_18 (t25 == t28)))) ?_
                  refine TxtE.cons rfl ⟨.same _, trivial⟩ rfl (VOk.g (VOk.asg (d := (.v (.bool (x10_18 || (t25 == t28))))) rfl rfl)) ?_
                  exact .done (.rf rfl rfl)
                refine Ok.region (σ' := ⟨[(0, (S a0)), (1, (L 2 e_api_Field a1)), (7, (S t11.1)), (8, (L 2 e_api_Field t11.2.1)), (9, (.v (.int .i64 t11.2.2))), (10, (.v (.bool (x10_18 || (t25 == t28))))), (11, (.v (.int .i64 x11_14))), (12, (.v (.int .i64 (IntKind.i64.wrap (x12_19 + 1)))))], []⟩) ?_ ?_
                · refine .cv (VOk.mv (d := (.v (.int .i64 x12_19))) rfl rfl) rfl rfl ?_
                  refine .cv (VOk.arith (op := .add) (k := .i64) (a := x12_19) (b := 1) rfl rfl rfl rfl) rfl rfl ?_
                  refine .cv (VOk.asg (d := (.v (.int .i64 (IntKind.i64.wrap (x12_19 + 1))))) rfl rfl) rfl rfl ?_
                  exact .done (.rf rfl rfl)
                exact ⟨m22, Nat.lt_succ_self m22, (x10_18 || (t25 == t28)), (IntKind.i64.wrap (x12_19 + 1)), rfl, H⟩
              · replace H := ifF H hb31
                refine Ok.exit ?_
                refine Ok.region (σ' := ⟨[(0, (S a0)), (1, (L 2 e_api_Field a1)), (7, (S t11.1)), (8, (L 2 e_api_Field t11.2.1)), (9, (.v (.int .i64 t11.2.2))), (10, (.v (.bool x10_18))), (11, (.v (.int .i64 (IntKind.i64.wrap (x11_14 + 1)))))], []⟩) ?_ ?_
                · refine .cv (VOk.mv (d := (.v (.int .i64 x11_14))) rfl rfl) rfl rfl ?_
                  refine .cv (VOk.arith (op := .add) (k := .i64) (a := x11_14) (b := 1) rfl rfl rfl rfl) rfl rfl ?_
                  refine .cv (VOk.asg (d := (.v (.int .i64 (IntKind.i64.wrap (x11_14 + 1))))) rfl rfl) rfl rfl ?_
                  exact .done (.rf rfl rfl)
                exact ⟨m17, Nat.lt_succ_self m17, x10_18, (IntKind.i64.wrap (x11_14 + 1)), rfl, H⟩
          · replace H := ifF H hb64
            refine Ok.exit ?_
            refine Ok.seq ?_
            refine Ok.seq ?_
            refine Ok.region (σ' := ⟨[(0, (S a0)), (1, (L 2 e_api_Field a1)), (7, (S t11.1)), (8, (L 2 e_api_Field t11.2.1)), (9, (.v (.int .i64 t11.2.2))), (71, (.v (.bool x10_13)))], []⟩) ?_ ?_
            · refine .cv (VOk.mv (d := (.v (.bool x10_13))) rfl rfl) rfl rfl ?_
              exact .done (.rf rfl rfl)
            refine Ok.test (b := x10_13) rfl (fun hb63 => ?_) (fun hb63 => ?_)
            · replace H := ifT H hb63
              refine Ok.seq ?_
              refine Ok.region (σ' := ⟨[(4, (.v (.bool (((t11.2.2 == 4) && (t11.1 == ([] : Str))) && ((t11.2.1.length : Int) == 0)))))], []⟩) ?_ ?_
              · refine .cv (VOk.mv (d := (.v (.int .i64 t11.2.2))) rfl rfl) rfl rfl ?_
                refine .cv (VOk.arith (op := .eql) (k := .i64) (a := t11.2.2) (b := 4) rfl rfl rfl rfl) rfl rfl ?_
                refine .cv (VOk.mv (d := (.v (.bool (t11.2.2 == 4)))) rfl rfl) rfl rfl ?_
                refine OpsOk.consI rfl rfl rfl (.one rfl) rfl (fun hw32 => (VOk.g (VOk.mv (d := (S t11.1)) rfl rfl))) ?_
                refine OpsOk.consI rfl rfl rfl (.one rfl) rfl (fun hw32 => (GOk.fr (fr' := [(75, (S t11.1))]) ⟨DLe.of_eq (cT hw32).symm, trivial⟩ (VOk.g (VOk.strOp (op := .eql) (a := t11.1) (b := ([] : Str)) rfl rfl rfl rfl)))) ?_
                refine .cv (VOk.to (VOk.pickI (b := (t11.2.2 == 4)) (p := (t11.1 == ([] : Str))) (q := false) rfl rfl (fun hp33 => (cT (t_beq hp33))) (fun hp33 => rfl)) (pickAnd (t11.2.2 == 4) (t11.1 == ([] : Str)))) rfl rfl ?_
                refine .cv (VOk.mv (d := (.v (.bool ((t11.2.2 == 4) && (t11.1 == ([] : Str)))))) rfl rfl) rfl rfl ?_
                refine OpsOk.consI rfl rfl rfl (.one rfl) rfl (fun hw34 => (VOk.g (VOk.mv (d := (L 2 e_api_Field t11.2.1)) rfl rfl))) ?_
                refine OpsOk.consI rfl rfl rfl (.one rfl) rfl (fun hw34 => (GOk.fr (fr' := [(79, (L 2 e_api_Field t11.2.1))]) ⟨DLe.of_eq (cT hw34).symm, trivial⟩ (VOk.g (VOk.lenL (e := e_api_Field) (xs := t11.2.1) rfl Tryd.underlying42 rfl)))) ?_
                refine OpsOk.consI rfl rfl rfl (.one rfl) rfl (fun hw34 => (GOk.fr (fr' := [(80, (.v (.int .i64 (t11.2.1.length : Int))))]) ⟨DLe.of_eq (cT hw34).symm, trivial⟩ (VOk.g (VOk.arith (op := .eql) (k := .i64) (a := (t11.2.1.length : Int)) (b := 0) rfl rfl rfl rfl)))) ?_
                refine .cv (VOk.to (VOk.pickI (b := ((t11.2.2 == 4) && (t11.1 == ([] : Str)))) (p := ((t11.2.1.length : Int) == 0)) (q := false) rfl rfl (fun hp35 => (cT (t_beq hp35))) (fun hp35 => rfl)) (pickAnd ((t11.2.2 == 4) && (t11.1 == ([] : Str))) ((t11.2.1.length : Int) == 0))) rfl rfl ?_
                refine .cv (VOk.asg (d := (.v (.bool (((t11.2.2 == 4) && (t11.1 == ([] : Str))) && ((t11.2.1.length : Int) == 0))))) rfl rfl) rfl rfl ?_
                exact .done (.rf rfl rfl)
              refine Ok.ret ?_
              obtain rfl := Option.some.inj H
              exact ⟨.inl rfl, ⟨_, (.cons (.tmp rfl) .nil), rfl⟩, trivial⟩
            · replace H := ifF H hb63
              refine Ok.skip ?_
              refine Ok.seq ?_
              refine Ok.seq ?_
              obtain ⟨t37, h38, H⟩ := bindE H
              refine Ok.region (σ' := ⟨[(1, (L 2 e_api_Field a1)), (8, (L 2 e_api_Field t11.2.1)), (97, (.v (.bool (((t11.2.2 != 0) || (!(t11.1 == t37))) || ((t11.2.1.length : Int) != (a1.length : Int))))))], []⟩) ?_ ?_
              · refine .cv (VOk.mv (d := (.v (.int .i64 t11.2.2))) rfl rfl) rfl rfl ?_
                refine .cv (VOk.arith (op := .neq) (k := .i64) (a := t11.2.2) (b := 0) rfl rfl rfl rfl) rfl rfl ?_
                refine .cv (VOk.mv (d := (.v (.bool (t11.2.2 != 0)))) rfl rfl) rfl rfl ?_
                refine OpsOk.consI rfl rfl rfl (.one rfl) rfl (fun hw36 => (VOk.g (VOk.mv (d := (S t11.1)) rfl rfl))) ?_
                refine OpsOk.consI rfl rfl rfl (.one rfl) rfl (fun hw36 => (VOk.g (VOk.mv (d := (S a0)) rfl rfl))) ?_
                refine OpsOk.consI rfl rfl rfl (.one rfl) rfl (fun hw36 => (GOk.fr (fr' := [(87, (S a0))]) ⟨DLe.of_eq (cT hw36).symm, trivial⟩ (GOk.call rfl rfl cl26 rfl (watchbillref07_Lower.ok (ifT h38 hw36)) rfl))) ?_
                refine OpsOk.consI rfl rfl rfl (.one rfl) rfl (fun hw36 => (GOk.fr (fr' := [(86, (S t11.1)), (88, (S t37))]) ⟨DLe.of_eq (cT hw36).symm, DLe.of_eq (cT hw36).symm, trivial⟩ (VOk.g (VOk.strOp (op := .neq) (a := t11.1) (b := t37) rfl rfl rfl rfl)))) ?_
                refine .cv (VOk.to (VOk.pickI (b := (t11.2.2 != 0)) (p := true) (q := (!(t11.1 == t37))) rfl rfl (fun hp39 => rfl) (fun hp39 => (cT (f_beq hp39)))) (pickOr (t11.2.2 != 0) (!(t11.1 == t37)))) rfl rfl ?_
                refine .cv (VOk.mv (d := (.v (.bool ((t11.2.2 != 0) || (!(t11.1 == t37)))))) rfl rfl) rfl rfl ?_
                refine OpsOk.consI rfl rfl rfl (.one rfl) rfl (fun hw40 => (VOk.g (VOk.mv (d := (L 2 e_api_Field t11.2.1)) rfl rfl))) ?_
                refine OpsOk.consI rfl rfl rfl (.one rfl) rfl (fun hw40 => (GOk.fr (fr' := [(92, (L 2 e_api_Field t11.2.1))]) ⟨DLe.of_eq (cT hw40).symm, trivial⟩ (VOk.g (VOk.lenL (e := e_api_Field) (xs := t11.2.1) rfl Tryd.underlying42 rfl)))) ?_
                refine OpsOk.consI rfl rfl rfl (.one rfl) rfl (fun hw40 => (VOk.g (VOk.mv (d := (L 2 e_api_Field a1)) rfl rfl))) ?_
                refine OpsOk.consI rfl rfl rfl (.one rfl) rfl (fun hw40 => (GOk.fr (fr' := [(94, (L 2 e_api_Field a1))]) ⟨DLe.of_eq (cT hw40).symm, trivial⟩ (VOk.g (VOk.lenL (e := e_api_Field) (xs := a1) rfl Tryd.underlying42 rfl)))) ?_
                refine OpsOk.consI rfl rfl rfl (.one rfl) rfl (fun hw40 => (GOk.fr (fr' := [(93, (.v (.int .i64 (t11.2.1.length : Int)))), (95, (.v (.int .i64 (a1.length : Int))))]) ⟨DLe.of_eq (cT hw40).symm, DLe.of_eq (cT hw40).symm, trivial⟩ (VOk.g (VOk.arith (op := .neq) (k := .i64) (a := (t11.2.1.length : Int)) (b := (a1.length : Int)) rfl rfl rfl rfl)))) ?_
                refine .cv (VOk.to (VOk.pickI (b := ((t11.2.2 != 0) || (!(t11.1 == t37)))) (p := true) (q := ((t11.2.1.length : Int) != (a1.length : Int))) rfl rfl (fun hp41 => rfl) (fun hp41 => (cT (f_beq hp41)))) (pickOr ((t11.2.2 != 0) || (!(t11.1 == t37))) ((t11.2.1.length : Int) != (a1.length : Int)))) rfl rfl ?_
                exact .done (.rf rfl rfl)
              refine Ok.test (b := (((t11.2.2 != 0) || (!(t11.1 == t37))) || ((t11.2.1.length : Int) != (a1.length : Int)))) rfl (fun hb62 => ?_) (fun hb62 => ?_)
              · replace H := ifT H hb62
                refine Ok.seq ?_
                refine Ok.region (σ' := ⟨[(4, (.v (.bool false)))], []⟩) ?_ ?_
                · refine .cv (VOk.asg (d := (.v (.bool false))) rfl rfl) rfl rfl ?_
                  exact .done (.rf rfl rfl)
                refine Ok.ret ?_
                obtain rfl := Option.some.inj H
                exact ⟨.inl rfl, ⟨_, (.cons (.tmp rfl) .nil), rfl⟩, trivial⟩
              · replace H := ifF H hb62
                refine Ok.skip ?_
                refine Ok.seq ?_
                refine Ok.seq ?_
                refine Ok.region (σ' := ⟨[(1, (L 2 e_api_Field a1)), (8, (L 2 e_api_Field t11.2.1)), (13, (.v (.int .i64 0)))], []⟩) ?_ ?_
                · refine .cv (VOk.asg (d := (.v (.int .i64 0))) rfl rfl) rfl rfl ?_
                  exact .done (.rf rfl rfl)
                refine Ok.block ?_
                refine Ok.le (σ' := ⟨[(1, (L 2 e_api_Field a1)), (8, (L 2 e_api_Field t11.2.1)), (13, (.v (.int .i64 0)))], []⟩) (.rf rfl rfl) ?_
                refine Ok.loop (fun m44 σ => ∃ (x13_42 : Int), σ = ⟨[(1, (L 2 e_api_Field a1)), (8, (L 2 e_api_Field t11.2.1)), (13, (.v (.int .i64 x13_42)))], []⟩ ∧ watchbilllaw07_FieldTypeBack.l2 k a1 t11 m44 x13_42 = some r) k ⟨0, rfl, H⟩ ?_
                rintro m44 σ ⟨x13_42, rfl, H⟩
                cases m44 with
                | zero => exact absurd H (by simp [watchbilllaw07_FieldTypeBack.l2])
                | succ m44 =>
                  unfold watchbilllaw07_FieldTypeBack.l2 at H
                  refine Ok.seq ?_
                  refine Ok.seq ?_
                  refine Ok.region (σ' := ⟨[(1, (L 2 e_api_Field a1)), (8, (L 2 e_api_Field t11.2.1)), (13, (.v (.int .i64 x13_42))), (101, (.v (.bool (decide (x13_42 < (a1.length : Int))))))], []⟩) ?_ ?_
                  · refine .cv (VOk.mv (d := (.v (.int .i64 x13_42))) rfl rfl) rfl rfl ?_
                    refine .cv (VOk.mv (d := (L 2 e_api_Field a1)) rfl rfl) rfl rfl ?_
                    refine .cv (VOk.lenL (e := e_api_Field) (xs := a1) rfl Tryd.underlying42 rfl) rfl rfl ?_
                    refine .cv (VOk.arith (op := .lss) (k := .i64) (a := x13_42) (b := (a1.length : Int)) rfl rfl rfl rfl) rfl rfl ?_
                    exact .done (.rf rfl rfl)
                  refine Ok.test (b := (decide (x13_42 < (a1.length : Int)))) rfl (fun hb61 => ?_) (fun hb61 => ?_)
                  · replace H := ifT H hb61
                    refine Ok.skip ?_
                    refine Ok.seq ?_
                    refine Ok.block ?_
                    refine Ok.seq ?_
                    refine Ok.seq ?_
                    obtain ⟨c45, H⟩ := assertE H
                    obtain ⟨c46, H⟩ := assertE H
                    obtain ⟨t47, h48, H⟩ := bindE H
                    obtain ⟨c50, H⟩ := assertE H
                    obtain ⟨c51, H⟩ := assertE H
                    refine Ok.drawE (σ' := ⟨[(1, (L 2 e_api_Field a1)), (8, (L 2 e_api_Field t11.2.1)), (13, (.v (.int .i64 x13_42))), (128, (.v (.bool ((!(((rd t11.2.1 x13_42).Name) == t47)) || (!(((rd t11.2.1 x13_42).Value) == ((rd a1 x13_42).Value)))))))], []⟩) [⟨true, [(8, (L 2 e_api_Field t11.2.1))], (L 2 e_api_Field t11.2.1)⟩, ⟨true, [(13, (.v (.int .i64 x13_42)))], (.v (.int .i64 x13_42))⟩, ⟨true, [(104, (L 2 e_api_Field t11.2.1)), (105, (.v (.int .i64 x13_42)))], (.fp (e_api_Field (rd t11.2.1 x13_42)) 0)⟩, ⟨true, [(106, (.fp (e_api_Field (rd t11.2.1 x13_42)) 0))], (.fp (e_api_Field (rd t11.2.1 x13_42)) 0)⟩, ⟨true, [(107, (.fp (e_api_Field (rd t11.2.1 x13_42)) 0))], (S ((rd t11.2.1 x13_42).Name))⟩, ⟨true, [(1, (L 2 e_api_Field a1))], (L 2 e_api_Field a1)⟩, ⟨true, [(13, (.v (.int .i64 x13_42)))], (.v (.int .i64 x13_42))⟩, ⟨true, [(109, (L 2 e_api_Field a1)), (110, (.v (.int .i64 x13_42)))], (.fp (e_api_Field (rd a1 x13_42)) 0)⟩, ⟨true, [(111, (.fp (e_api_Field (rd a1 x13_42)) 0))], (.fp (e_api_Field (rd a1 x13_42)) 0)⟩, ⟨true, [(112, (.fp (e_api_Field (rd a1 x13_42)) 0))], (S ((rd a1 x13_42).Name))⟩, ⟨true, [(113, (S ((rd a1 x13_42).Name)))], (S t47)⟩, ⟨true, [(108, (S ((rd t11.2.1 x13_42).Name))), (114, (S t47))], (.v (.bool (!(((rd t11.2.1 x13_42).Name) == t47))))⟩, ⟨true, [(115, (.v (.bool (!(((rd t11.2.1 x13_42).Name) == t47)))))], (.v (.bool (!(((rd t11.2.1 x13_42).Name) == t47))))⟩, It.I ((!(((rd t11.2.1 x13_42).Name) == t47)) == false) [(8, (L 2 e_api_Field t11.2.1)), (116, (.v (.bool (!(((rd t11.2.1 x13_42).Name) == t47)))))] (L 2 e_api_Field t11.2.1), It.I ((!(((rd t11.2.1 x13_42).Name) == t47)) == false) [(13, (.v (.int .i64 x13_42))), (116, (.v (.bool (!(((rd t11.2.1 x13_42).Name) == t47)))))] (.v (.int .i64 x13_42)), It.I ((!(((rd t11.2.1 x13_42).Name) == t47)) == false) [(117, (bif ((!(((rd t11.2.1 x13_42).Name) == t47)) == false) then (L 2 e_api_Field t11.2.1) else .v undef)), (118, (bif ((!(((rd t11.2.1 x13_42).Name) == t47)) == false) then (.v (.int .i64 x13_42)) else .v undef)), (116, (.v (.bool (!(((rd t11.2.1 x13_42).Name) == t47)))))] (.fp (e_api_Field (rd t11.2.1 x13_42)) 0), It.I ((!(((rd t11.2.1 x13_42).Name) == t47)) == false) [(119, (bif ((!(((rd t11.2.1 x13_42).Name) == t47)) == false) then (.fp (e_api_Field (rd t11.2.1 x13_42)) 0) else .v undef)), (116, (.v (.bool (!(((rd t11.2.1 x13_42).Name) == t47)))))] (.fp (e_api_Field (rd t11.2.1 x13_42)) 1), It.I ((!(((rd t11.2.1 x13_42).Name) == t47)) == false) [(120, (bif ((!(((rd t11.2.1 x13_42).Name) == t47)) == false) then (.fp (e_api_Field (rd t11.2.1 x13_42)) 1) else .v undef)), (116, (.v (.bool (!(((rd t11.2.1 x13_42).Name) == t47)))))] (S ((rd t11.2.1 x13_42).Value)), It.I ((!(((rd t11.2.1 x13_42).Name) == t47)) == false) [(1, (L 2 e_api_Field a1)), (116, (.v (.bool (!(((rd t11.2.1 x13_42).Name) == t47)))))] (L 2 e_api_Field a1), It.I ((!(((rd t11.2.1 x13_42).Name) == t47)) == false) [(13, (.v (.int .i64 x13_42))), (116, (.v (.bool (!(((rd t11.2.1 x13_42).Name) == t47)))))] (.v (.int .i64 x13_42)), It.I ((!(((rd t11.2.1 x13_42).Name) == t47)) == false) [(122, (bif ((!(((rd t11.2.1 x13_42).Name) == t47)) == false) then (L 2 e_api_Field a1) else .v undef)), (123, (bif ((!(((rd t11.2.1 x13_42).Name) == t47)) == false) then (.v (.int .i64 x13_42)) else .v undef)), (116, (.v (.bool (!(((rd t11.2.1 x13_42).Name) == t47)))))] (.fp (e_api_Field (rd a1 x13_42)) 0), It.I ((!(((rd t11.2.1 x13_42).Name) == t47)) == false) [(124, (bif ((!(((rd t11.2.1 x13_42).Name) == t47)) == false) then (.fp (e_api_Field (rd a1 x13_42)) 0) else .v undef)), (116, (.v (.bool (!(((rd t11.2.1 x13_42).Name) == t47)))))] (.fp (e_api_Field (rd a1 x13_42)) 1), It.I ((!(((rd t11.2.1 x13_42).Name) == t47)) == false) [(125, (bif ((!(((rd t11.2.1 x13_42).Name) == t47)) == false) then (.fp (e_api_Field (rd a1 x13_42)) 1) else .v undef)), (116, (.v (.bool (!(((rd t11.2.1 x13_42).Name) == t47)))))] (S ((rd a1 x13_42).Value)), It.I ((!(((rd t11.2.1 x13_42).Name) == t47)) == false) [(121, (bif ((!(((rd t11.2.1 x13_42).Name) == t47)) == false) then (S ((rd t11.2.1 x13_42).Value)) else .v undef)), (126, (bif ((!(((rd t11.2.1 x13_42).Name) == t47)) == false) then (S ((rd a1 x13_42).Value)) else .v undef)), (116, (.v (.bool (!(((rd t11.2.1 x13_42).Name) == t47)))))] (.v (.bool (!(((rd t11.2.1 x13_42).Value) == ((rd a1 x13_42).Value))))), ⟨true, [(116, (.v (.bool (!(((rd t11.2.1 x13_42).Name) == t47))))), (127, (bif ((!(((rd t11.2.1 x13_42).Name) == t47)) == false) then (.v (.bool (!(((rd t11.2.1 x13_42).Value) == ((rd a1 x13_42).Value))))) else .v undef))], (.v (.bool ((!(((rd t11.2.1 x13_42).Name) == t47)) || (!(((rd t11.2.1 x13_42).Value) == ((rd a1 x13_42).Value))))))⟩] [[], [], [0, 1], [2], [3], [], [], [5, 6], [7], [8], [9], [4, 10], [11], [12], [12], [12, 13, 14], [12, 15], [12, 16], [12], [12], [12, 18, 19], [12, 20], [12, 21], [12, 17, 22], [12, 23]] mixed (by kernel_rfl) ?_ ?_
                    · refine TxtE.cons rfl ⟨.same _, trivial⟩ rfl (VOk.g (VOk.mv (d := (L 2 e_api_Field t11.2.1)) rfl rfl)) ?_
                      refine TxtE.cons rfl ⟨.same _, trivial⟩ rfl (VOk.g (VOk.mv (d := (.v (.int .i64 x13_42))) rfl rfl)) ?_
                      refine TxtE.cons rfl ⟨.same _, .same _, trivial⟩ rfl (VOk.g (VOk.indexL (sz := 2) (e := e_api_Field) (xs := t11.2.1) (i := x13_42) rfl Tryd.underlying42 sz54 rfl rfl c45)) ?_
                      refine TxtE.cons rfl ⟨.same _, trivial⟩ rfl (VOk.g (VOk.to (VOk.fieldFp rfl Tryd.underlying54 rfl sz9 rfl) rfl)) ?_
                      refine TxtE.cons rfl ⟨.same _, trivial⟩ rfl (VOk.g (VOk.loadFp (d := (S ((rd t11.2.1 x13_42).Name))) rfl Tryd.underlying9 rfl rfl rfl)) ?_
                      refine TxtE.cons rfl ⟨.same _, trivial⟩ rfl (VOk.g (VOk.mv (d := (L 2 e_api_Field a1)) rfl rfl)) ?_
                      refine TxtE.cons rfl ⟨.same _, trivial⟩ rfl (VOk.g (VOk.mv (d := (.v (.int .i64 x13_42))) rfl rfl)) ?_
                      refine TxtE.cons rfl ⟨.same _, .same _, trivial⟩ rfl (VOk.g (VOk.indexL (sz := 2) (e := e_api_Field) (xs := a1) (i := x13_42) rfl Tryd.underlying42 sz54 rfl rfl c46)) ?_
                      refine TxtE.cons rfl ⟨.same _, trivial⟩ rfl (VOk.g (VOk.to (VOk.fieldFp rfl Tryd.underlying54 rfl sz9 rfl) rfl)) ?_
                      refine TxtE.cons rfl ⟨.same _, trivial⟩ rfl (VOk.g (VOk.loadFp (d := (S ((rd a1 x13_42).Name))) rfl Tryd.underlying9 rfl rfl rfl)) ?_
                      refine TxtE.cons rfl ⟨.same _, trivial⟩ rfl (GOk.call rfl rfl cl26 rfl (watchbillref07_Lower.ok h48) rfl) ?_
                      refine TxtE.cons rfl ⟨.same _, .same _, trivial⟩ rfl (VOk.g (VOk.strOp (op := .neq) (a := (rd t11.2.1 x13_42).Name) (b := t47) rfl rfl rfl rfl)) ?_
                      refine TxtE.cons rfl ⟨.same _, trivial⟩ rfl (VOk.g (VOk.mv (d := (.v (.bool (!(((rd t11.2.1 x13_42).Name) == t47))))) rfl rfl)) ?_
                      refine TxtE.consI rfl ⟨.same _, .same _, trivial⟩ rfl rfl (.one rfl) (fun hw49 => (VOk.g (VOk.mv (d := (L 2 e_api_Field t11.2.1)) rfl rfl))) ?_
                      refine TxtE.consI rfl ⟨.same _, .same _, trivial⟩ rfl rfl (.one rfl) (fun hw49 => (VOk.g (VOk.mv (d := (.v (.int .i64 x13_42))) rfl rfl))) ?_
                      refine TxtE.consI rfl ⟨.same _, .same _, .same _, trivial⟩ rfl rfl (.one rfl) (fun hw49 => (GOk.fr (fr' := [(117, (L 2 e_api_Field t11.2.1)), (118, (.v (.int .i64 x13_42)))]) ⟨DLe.of_eq (cT hw49).symm, DLe.of_eq (cT hw49).symm, trivial⟩ (VOk.g (VOk.indexL (sz := 2) (e := e_api_Field) (xs := t11.2.1) (i := x13_42) rfl Tryd.underlying42 sz54 rfl rfl (c50 hw49))))) ?_
                      refine TxtE.consI rfl ⟨.same _, .same _, trivial⟩ rfl rfl (.one rfl) (fun hw49 => (GOk.fr (fr' := [(119, (.fp (e_api_Field (rd t11.2.1 x13_42)) 0))]) ⟨DLe.of_eq (cT hw49).symm, trivial⟩ (VOk.g (VOk.to (VOk.fieldFp rfl Tryd.underlying54 rfl sz9 rfl) rfl)))) ?_
                      refine TxtE.consI rfl ⟨.same _, .same _, trivial⟩ rfl rfl (.one rfl) (fun hw49 => (GOk.fr (fr' := [(120, (.fp (e_api_Field (rd t11.2.1 x13_42)) 1))]) ⟨DLe.of_eq (cT hw49).symm, trivial⟩ (VOk.g (VOk.loadFp (d := (S ((rd t11.2.1 x13_42).Value))) rfl Tryd.underlying9 rfl rfl rfl)))) ?_
                      refine TxtE.consI rfl ⟨.same _, .same _, trivial⟩ rfl rfl (.one rfl) (fun hw49 => (VOk.g (VOk.mv (d := (L 2 e_api_Field a1)) rfl rfl))) ?_
                      refine TxtE.consI rfl ⟨.same _, .same _, trivial⟩ rfl rfl (.one rfl) (fun hw49 => (VOk.g (VOk.mv (d := (.v (.int .i64 x13_42))) rfl rfl))) ?_
                      refine TxtE.consI rfl ⟨.same _, .same _, .same _, trivial⟩ rfl rfl (.one rfl) (fun hw49 => (GOk.fr (fr' := [(122, (L 2 e_api_Field a1)), (123, (.v (.int .i64 x13_42)))]) ⟨DLe.of_eq (cT hw49).symm, DLe.of_eq (cT hw49).symm, trivial⟩ (VOk.g (VOk.indexL (sz := 2) (e := e_api_Field) (xs := a1) (i := x13_42) rfl Tryd.underlying42 sz54 rfl rfl (c51 hw49))))) ?_
                      refine TxtE.consI rfl ⟨.same _, .same _, trivial⟩ rfl rfl (.one rfl) (fun hw49 => (GOk.fr (fr' := [(124, (.fp (e_api_Field (rd a1 x13_42)) 0))]) ⟨DLe.of_eq (cT hw49).symm, trivial⟩ (VOk.g (VOk.to (VOk.fieldFp rfl Tryd.underlying54 rfl sz9 rfl) rfl)))) ?_
                      refine TxtE.consI rfl ⟨.same _, .same _, trivial⟩ rfl rfl (.one rfl) (fun hw49 => (GOk.fr (fr' := [(125, (.fp (e_api_Field (rd a1 x13_42)) 1))]) ⟨DLe.of_eq (cT hw49).symm, trivial⟩ (VOk.g (VOk.loadFp (d := (S ((rd a1 x13_42).Value))) rfl Tryd.underlying9 rfl rfl rfl)))) ?_
                      refine TxtE.consI rfl ⟨.same _, .same _, .same _, trivial⟩ rfl rfl (.one rfl) (fun hw49 => (GOk.fr (fr' := [(121, (S ((rd t11.2.1 x13_42).Value))), (126, (S ((rd a1 x13_42).Value)))]) ⟨DLe.of_eq (cT hw49).symm, DLe.of_eq (cT hw49).symm, trivial⟩ (VOk.g (VOk.strOp (op := .neq) (a := (rd t11.2.1 x13_42).Value) (b := (rd a1 x13_42).Value) rfl rfl rfl rfl)))) ?_
                      refine TxtE.cons rfl ⟨.same _, .same _, trivial⟩ rfl (VOk.g (VOk.to (VOk.pickI (b := (!(((rd t11.2.1 x13_42).Name) == t47))) (p := true) (q := (!(((rd t11.2.1 x13_42).Value) == ((rd a1 x13_42).Value)))) rfl rfl (fun hp52 => rfl) (fun hp52 => (cT (f_beq hp52)))) (pickOr (!(((rd t11.2.1 x13_42).Name) == t47)) (!(((rd t11.2.1 x13_42).Value) == ((rd a1 x13_42).Value)))))) ?_
                      exact .done (.rf rfl rfl)
                    refine Ok.test (b := ((!(((rd t11.2.1 x13_42).Name) == t47)) || (!(((rd t11.2.1 x13_42).Value) == ((rd a1 x13_42).Value))))) rfl (fun hb60 => ?_) (fun hb60 => ?_)
                    · replace H := ifT H hb60
                      refine Ok.seq ?_
                      refine Ok.region (σ' := ⟨[(4, (.v (.bool false)))], []⟩) ?_ ?_
                      · refine .cv (VOk.asg (d := (.v (.bool false))) rfl rfl) rfl rfl ?_
                        exact .done (.rf rfl rfl)
                      refine Ok.ret ?_
                      obtain rfl := Option.some.inj H
                      exact ⟨.inl rfl, ⟨_, (.cons (.tmp rfl) .nil), rfl⟩, trivial⟩
                    · replace H := ifF H hb60
                      refine Ok.skip ?_
                      refine Ok.seq ?_
                      obtain ⟨c53, H⟩ := assertE H
                      obtain ⟨t54, h55, H⟩ := bindE H
                      refine Ok.region (σ' := ⟨[(1, (L 2 e_api_Field a1)), (8, (L 2 e_api_Field t11.2.1)), (13, (.v (.int .i64 x13_42))), (14, (S t54.1)), (15, (.v (.bool t54.2)))], []⟩) ?_ ?_
                      · refine .cv (VOk.mv (d := (L 2 e_api_Field t11.2.1)) rfl rfl) rfl rfl ?_
                        refine .cv (VOk.mv (d := (L 2 e_api_Field a1)) rfl rfl) rfl rfl ?_
                        refine .cv (VOk.mv (d := (.v (.int .i64 x13_42))) rfl rfl) rfl rfl ?_
                        refine .cv (VOk.indexL (sz := 2) (e := e_api_Field) (xs := a1) (i := x13_42) rfl Tryd.underlying42 sz54 rfl rfl c53) rfl rfl ?_
                        refine .cv (VOk.to (VOk.fieldFp rfl Tryd.underlying54 rfl sz9 rfl) rfl) rfl rfl ?_
                        refine .cv (VOk.loadFp (d := (S ((rd a1 x13_42).Name))) rfl Tryd.underlying9 rfl rfl rfl) rfl rfl ?_
                        refine .cg (GOk.call rfl rfl cl23 rfl (field_Param.ok h55) rfl) rfl rfl ?_
                        refine .cv (VOk.mv (d := (.tup [(S t54.1), (.v (.bool t54.2))])) rfl rfl) rfl rfl ?_
                        refine .cv (VOk.extract (d := (S t54.1)) rfl rfl rfl) rfl rfl ?_
                        refine .cv (VOk.extract (d := (.v (.bool t54.2))) rfl rfl rfl) rfl rfl ?_
                        refine .cv (VOk.asg (d := (S t54.1)) rfl rfl) rfl rfl ?_
                        refine .cv (VOk.asg (d := (.v (.bool t54.2))) rfl rfl) rfl rfl ?_
                        exact .done (.rf rfl rfl)
                      refine Ok.seq ?_
                      obtain ⟨c57, H⟩ := assertE H
                      refine Ok.region (σ' := ⟨[(1, (L 2 e_api_Field a1)), (8, (L 2 e_api_Field t11.2.1)), (13, (.v (.int .i64 x13_42))), (149, (.v (.bool ((!t54.2) || (!(t54.1 == ((rd a1 x13_42).Value)))))))], []⟩) ?_ ?_
                      · refine .cv (VOk.mv (d := (.v (.bool t54.2))) rfl rfl) rfl rfl ?_
                        refine .cv (VOk.not (b := t54.2) rfl rfl) rfl rfl ?_
                        refine .cv (VOk.mv (d := (.v (.bool (!t54.2)))) rfl rfl) rfl rfl ?_
                        refine OpsOk.consI rfl rfl rfl (.one rfl) rfl (fun hw56 => (VOk.g (VOk.mv (d := (S t54.1)) rfl rfl))) ?_
                        refine OpsOk.consI rfl rfl rfl (.one rfl) rfl (fun hw56 => (VOk.g (VOk.mv (d := (L 2 e_api_Field a1)) rfl rfl))) ?_
                        refine OpsOk.consI rfl rfl rfl (.one rfl) rfl (fun hw56 => (VOk.g (VOk.mv (d := (.v (.int .i64 x13_42))) rfl rfl))) ?_
                        refine OpsOk.consI rfl rfl rfl (.one rfl) rfl (fun hw56 => (GOk.fr (fr' := [(143, (L 2 e_api_Field a1)), (144, (.v (.int .i64 x13_42)))]) ⟨DLe.of_eq (cT hw56).symm, DLe.of_eq (cT hw56).symm, trivial⟩ (VOk.g (VOk.indexL (sz := 2) (e := e_api_Field) (xs := a1) (i := x13_42) rfl Tryd.underlying42 sz54 rfl rfl (c57 hw56))))) ?_
                        refine OpsOk.consI rfl rfl rfl (.one rfl) rfl (fun hw56 => (GOk.fr (fr' := [(145, (.fp (e_api_Field (rd a1 x13_42)) 0))]) ⟨DLe.of_eq (cT hw56).symm, trivial⟩ (VOk.g (VOk.to (VOk.fieldFp rfl Tryd.underlying54 rfl sz9 rfl) rfl)))) ?_
                        refine OpsOk.consI rfl rfl rfl (.one rfl) rfl (fun hw56 => (GOk.fr (fr' := [(146, (.fp (e_api_Field (rd a1 x13_42)) 1))]) ⟨DLe.of_eq (cT hw56).symm, trivial⟩ (VOk.g (VOk.loadFp (d := (S ((rd a1 x13_42).Value))) rfl Tryd.underlying9 rfl rfl rfl)))) ?_
                        refine OpsOk.consI rfl rfl rfl (.one rfl) rfl (fun hw56 => (GOk.fr (fr' := [(142, (S t54.1)), (147, (S ((rd a1 x13_42).Value)))]) ⟨DLe.of_eq (cT hw56).symm, DLe.of_eq (cT hw56).symm, trivial⟩ (VOk.g (VOk.strOp (op := .neq) (a := t54.1) (b := (rd a1 x13_42).Value) rfl rfl rfl rfl)))) ?_
                        refine .cv (VOk.to (VOk.pickI (b := (!t54.2)) (p := true) (q := (!(t54.1 == ((rd a1 x13_42).Value)))) rfl rfl (fun hp58 => rfl) (fun hp58 => (cT (f_beq hp58)))) (pickOr (!t54.2) (!(t54.1 == ((rd a1 x13_42).Value))))) rfl rfl ?_
                        exact .done (.rf rfl rfl)
                      refine Ok.test (b := ((!t54.2) || (!(t54.1 == ((rd a1 x13_42).Value))))) rfl (fun hb59 => ?_) (fun hb59 => ?_)
                      · replace H := ifT H hb59
                        refine Ok.seq ?_
                        refine Ok.region (σ' := ⟨[(4, (.v (.bool false)))], []⟩) ?_ ?_
                        · refine .cv (VOk.asg (d := (.v (.bool false))) rfl rfl) rfl rfl ?_
                          exact .done (.rf rfl rfl)
                        refine Ok.ret ?_
                        obtain rfl := Option.some.inj H
                        exact ⟨.inl rfl, ⟨_, (.cons (.tmp rfl) .nil), rfl⟩, trivial⟩
                      · replace H := ifF H hb59
                        refine Ok.skip ?_
                        refine Ok.region (σ' := ⟨[(1, (L 2 e_api_Field a1)), (8, (L 2 e_api_Field t11.2.1)), (13, (.v (.int .i64 (IntKind.i64.wrap (x13_42 + 1)))))], []⟩) ?_ ?_
                        · refine .cv (VOk.mv (d := (.v (.int .i64 x13_42))) rfl rfl) rfl rfl ?_
                          refine .cv (VOk.arith (op := .add) (k := .i64) (a := x13_42) (b := 1) rfl rfl rfl rfl) rfl rfl ?_
                          refine .cv (VOk.asg (d := (.v (.int .i64 (IntKind.i64.wrap (x13_42 + 1))))) rfl rfl) rfl rfl ?_
                          exact .done (.rf rfl rfl)
                        exact ⟨m44, Nat.lt_succ_self m44, (IntKind.i64.wrap (x13_42 + 1)), rfl, H⟩
                  · replace H := ifF H hb61
                    refine Ok.exit ?_
                    refine Ok.seq ?_
                    refine Ok.region (σ' := ⟨[(4, (.v (.bool true)))], []⟩) ?_ ?_
                    · refine .cv (VOk.asg (d := (.v (.bool true))) rfl rfl) rfl rfl ?_
                      exact .done (.rf rfl rfl)
                    refine Ok.ret ?_
                    obtain rfl := Option.some.inj H
                    exact ⟨.inl rfl, ⟨_, (.cons (.tmp rfl) .nil), rfl⟩, trivial⟩

end Go.Proofs.YtpdhjbjkakpejaaDoor.Sh
