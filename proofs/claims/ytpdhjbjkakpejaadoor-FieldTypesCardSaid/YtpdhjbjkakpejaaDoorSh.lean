import Derived.Test.YtpdhjbjkakpejaaDoorProg
import Derived.Test.YtpdhjbjkakpejaaDoorSha
namespace Go.Proofs.YtpdhjbjkakpejaaDoor.Sh
open Go Go.RowKit Go.Proofs.Vx
set_option linter.unusedVariables false

set_option maxRecDepth 100000
set_option maxHeartbeats 1000000
/-! watchbill/field.ParseType: function 21 -/
def field_ParseType.l0 (k : Nat) (a0 : Str) (t3 : Str × T_field_scanner) (t7 : Str × T_field_scanner) : Nat → Str → Int → List T_api_Field → Option (Str × (List T_api_Field) × Int)
  | 0, _, _, _ => none
  | m19 + 1, y15_0_14, y15_1_15, y3_13 => ((field_scanner_blanks k (T_field_scanner.mk y15_0_14 y15_1_15)).bind fun (t20 : T_field_scanner) => (if (t20.At_ == (a0.length : Int)) = true then (if t3.1.length + ([47] : Str).length ≤ 9223372036854775807 then (if (t3.1 ++ ([47] : Str)).length + t7.1.length ≤ 9223372036854775807 then ((field_lower k ((t3.1 ++ ([47] : Str)) ++ t7.1)).bind fun (t24 : Str) => some (t24, y3_13, 0)) else none) else none) else ((field_scanner_sign t20 59).bind fun (t26 : Bool × T_field_scanner) => (if (!t26.1) = true then some (([] : Str), ([] : List T_api_Field), 4) else ((field_scanner_param k t26.2).bind fun (t28 : T_api_Field × Bool × T_field_scanner) => ((field_Param k y3_13 t28.1.Name).bind fun (t30 : Str × Bool) => (if ((!t28.2.1) || t30.2) = true then some (([] : Str), ([] : List T_api_Field), 4) else (if (y3_13.length + ([t28.1] : List T_api_Field).length) * 32 ≤ 140737488355328 then field_ParseType.l0 k a0 t3 t7 m19 t28.2.2.S_ t28.2.2.At_ (y3_13 ++ ([t28.1] : List T_api_Field)) else none))))))))
def field_ParseType (k : Nat) (a0 : Str) : Option (Str × (List T_api_Field) × Int) := ((field_scanner_blanks k (T_field_scanner.mk a0 0)).bind fun (t1 : T_field_scanner) => ((field_scanner_token k t1).bind fun (t3 : Str × T_field_scanner) => ((field_scanner_sign t3.2 47).bind fun (t5 : Bool × T_field_scanner) => ((field_scanner_token k t5.2).bind fun (t7 : Str × T_field_scanner) => (if (((t3.1 == ([] : Str)) || (!t5.1)) || (t7.1 == ([] : Str))) = true then some (([] : Str), ([] : List T_api_Field), 31) else field_ParseType.l0 k a0 t3 t7 k t7.2.S_ t7.2.At_ ([] : List T_api_Field))))))
theorem field_ParseType.ok {k : Nat} {a0 : Str} {r : Str × (List T_api_Field) × Int} (H : field_ParseType k a0 = some r) : Vx.Fn Tryd.prog 21 [(S a0)] [] (.tup [(S r.1), (L 2 e_api_Field r.2.1), (.v (.int .i64 r.2.2))]) [] := by
  unfold field_ParseType at H
  refine Vx.Fn.of_okR Tryd.func21 rfl (Nat.le_of_ble_eq_true rfl) ?_
  refine Ok.seq ?_
  refine Ok.region (σ' := ⟨[(0, (S a0)), (3, (.sref 3))], [(3, (.rows true 54 2 (([] : List T_api_Field).map e_api_Field)))]⟩) ?_ ?_
  · refine .cv (VOk.asg (d := (S ([] : Str))) rfl rfl) rfl rfl ?_
    refine OpsOk.cons rfl (.nilT 3 54 2 (.inl rfl) rfl rfl) ?_
    refine .cv (VOk.asg (d := (.v (.int .i64 0))) rfl rfl) rfl rfl ?_
    exact .done (.rf rfl rfl)
  refine Ok.seq ?_
  refine Ok.region (σ' := ⟨[(0, (S a0)), (3, (.sref 3)), (5, (.bref 15 0))], [(3, (.rows true 54 2 (([] : List T_api_Field).map e_api_Field))), (15, (.box .ex [(S ((T_field_scanner.mk a0 0).S_)), (.v (.int .i64 ((T_field_scanner.mk a0 0).At_)))]))]⟩) ?_ ?_
  · refine .cv (VOk.mv (d := (S a0)) rfl rfl) rfl rfl ?_
    refine .cv (VOk.to (d' := (.agg (e_field_scanner (T_field_scanner.mk a0 0)))) (.build [none, none] [(0, 1), (1, 1)] rfl Tryd.underlying71 (fa71 Tryd.underlying71) zo71 rfl rfl) rfl) rfl rfl ?_
    refine OpsOk.cons rfl (OpOk.box 15 (cells := [(S ((T_field_scanner.mk a0 0).S_)), (.v (.int .i64 ((T_field_scanner.mk a0 0).At_)))]) rfl rfl rfl rfl) ?_
    refine .cv (VOk.asg (d := (.bref 15 0)) rfl rfl) rfl rfl ?_
    exact .done (.rf rfl rfl)
  refine Ok.seq ?_
  obtain ⟨t1, h2, H⟩ := bindE H
  refine Ok.region (σ' := ⟨[(0, (S a0)), (3, (.sref 3)), (5, (.bref 15 0))], [(3, (.rows true 54 2 (([] : List T_api_Field).map e_api_Field))), (15, (.box .ex [(S t1.S_), (.v (.int .i64 t1.At_))]))]⟩) ?_ ?_
  · refine .cv (VOk.mv (d := (.bref 15 0)) rfl rfl) rfl rfl ?_
    refine OpsOk.cons rfl (OpOk.callB (e := .ex) (ds0 := [(.bref 15 0)]) 15 rfl (.same _) cl45 (fun b => ((field_scanner_blanks.ok h2) b)) rfl ⟨.same _, trivial⟩ rfl rfl rfl rfl rfl) ?_
    exact .done (.rf rfl rfl)
  refine Ok.seq ?_
  obtain ⟨t3, h4, H⟩ := bindE H
  refine Ok.region (σ' := ⟨[(0, (S a0)), (3, (.sref 3)), (5, (.bref 15 0)), (6, (S t3.1))], [(3, (.rows true 54 2 (([] : List T_api_Field).map e_api_Field))), (15, (.box .ex [(S t3.2.S_), (.v (.int .i64 t3.2.At_))]))]⟩) ?_ ?_
  · refine .cv (VOk.mv (d := (.bref 15 0)) rfl rfl) rfl rfl ?_
    refine OpsOk.cons rfl (OpOk.callB (e := .ex) (ds0 := [(.bref 15 0)]) 15 rfl (.same _) cl46 (fun b => ((field_scanner_token.ok h4) b)) rfl ⟨.same _, trivial⟩ rfl rfl rfl rfl rfl) ?_
    refine .cv (VOk.asg (d := (S t3.1)) rfl rfl) rfl rfl ?_
    exact .done (.rf rfl rfl)
  refine Ok.seq ?_
  obtain ⟨t5, h6, H⟩ := bindE H
  refine Ok.region (σ' := ⟨[(0, (S a0)), (3, (.sref 3)), (5, (.bref 15 0)), (6, (S t3.1)), (7, (.v (.bool t5.1)))], [(3, (.rows true 54 2 (([] : List T_api_Field).map e_api_Field))), (15, (.box .ex [(S t5.2.S_), (.v (.int .i64 t5.2.At_))]))]⟩) ?_ ?_
  · refine .cv (VOk.mv (d := (.bref 15 0)) rfl rfl) rfl rfl ?_
    refine OpsOk.cons rfl (OpOk.callB (e := .ex) (ds0 := [(.bref 15 0), (.v (.int .u8 47))]) 15 rfl (.same _) cl47 (fun b => ((field_scanner_sign.ok h6) b)) rfl ⟨.same _, .same _, trivial⟩ rfl rfl rfl rfl rfl) ?_
    refine .cv (VOk.asg (d := (.v (.bool t5.1))) rfl rfl) rfl rfl ?_
    exact .done (.rf rfl rfl)
  refine Ok.seq ?_
  obtain ⟨t7, h8, H⟩ := bindE H
  refine Ok.region (σ' := ⟨[(0, (S a0)), (3, (.sref 3)), (5, (.bref 15 0)), (6, (S t3.1)), (7, (.v (.bool t5.1))), (8, (S t7.1))], [(3, (.rows true 54 2 (([] : List T_api_Field).map e_api_Field))), (15, (.box .ex [(S t7.2.S_), (.v (.int .i64 t7.2.At_))]))]⟩) ?_ ?_
  · refine .cv (VOk.mv (d := (.bref 15 0)) rfl rfl) rfl rfl ?_
    refine OpsOk.cons rfl (OpOk.callB (e := .ex) (ds0 := [(.bref 15 0)]) 15 rfl (.same _) cl46 (fun b => ((field_scanner_token.ok h8) b)) rfl ⟨.same _, trivial⟩ rfl rfl rfl rfl rfl) ?_
    refine .cv (VOk.asg (d := (S t7.1)) rfl rfl) rfl rfl ?_
    exact .done (.rf rfl rfl)
  refine Ok.seq ?_
  refine Ok.seq ?_
  refine Ok.region (σ' := ⟨[(0, (S a0)), (3, (.sref 3)), (5, (.bref 15 0)), (6, (S t3.1)), (8, (S t7.1)), (33, (.v (.bool (((t3.1 == ([] : Str)) || (!t5.1)) || (t7.1 == ([] : Str))))))], [(3, (.rows true 54 2 (([] : List T_api_Field).map e_api_Field))), (15, (.box .ex [(S t7.2.S_), (.v (.int .i64 t7.2.At_))]))]⟩) ?_ ?_
  · refine .cv (VOk.mv (d := (S t3.1)) rfl rfl) rfl rfl ?_
    refine .cv (VOk.strOp (op := .eql) (a := t3.1) (b := ([] : Str)) rfl rfl rfl rfl) rfl rfl ?_
    refine .cv (VOk.mv (d := (.v (.bool (t3.1 == ([] : Str))))) rfl rfl) rfl rfl ?_
    refine OpsOk.consI rfl rfl rfl (.one rfl) rfl (fun hw9 => (VOk.g (VOk.mv (d := (.v (.bool t5.1))) rfl rfl))) ?_
    refine OpsOk.consI rfl rfl rfl (.one rfl) rfl (fun hw9 => (GOk.fr (fr' := [(27, (.v (.bool t5.1)))]) ⟨DLe.of_eq (cT hw9).symm, trivial⟩ (VOk.g (VOk.not (b := t5.1) rfl rfl)))) ?_
    refine .cv (VOk.to (VOk.pickI (b := (t3.1 == ([] : Str))) (p := true) (q := (!t5.1)) rfl rfl (fun hp10 => rfl) (fun hp10 => (cT (f_beq hp10)))) (pickOr (t3.1 == ([] : Str)) (!t5.1))) rfl rfl ?_
    refine .cv (VOk.mv (d := (.v (.bool ((t3.1 == ([] : Str)) || (!t5.1))))) rfl rfl) rfl rfl ?_
    refine OpsOk.consI rfl rfl rfl (.one rfl) rfl (fun hw11 => (VOk.g (VOk.mv (d := (S t7.1)) rfl rfl))) ?_
    refine OpsOk.consI rfl rfl rfl (.one rfl) rfl (fun hw11 => (GOk.fr (fr' := [(31, (S t7.1))]) ⟨DLe.of_eq (cT hw11).symm, trivial⟩ (VOk.g (VOk.strOp (op := .eql) (a := t7.1) (b := ([] : Str)) rfl rfl rfl rfl)))) ?_
    refine .cv (VOk.to (VOk.pickI (b := ((t3.1 == ([] : Str)) || (!t5.1))) (p := true) (q := (t7.1 == ([] : Str))) rfl rfl (fun hp12 => rfl) (fun hp12 => (cT (f_beq hp12)))) (pickOr ((t3.1 == ([] : Str)) || (!t5.1)) (t7.1 == ([] : Str)))) rfl rfl ?_
    exact .done (.rf rfl rfl)
  refine Ok.test (b := (((t3.1 == ([] : Str)) || (!t5.1)) || (t7.1 == ([] : Str)))) rfl (fun hb38 => ?_) (fun hb38 => ?_)
  · replace H := ifT H hb38
    refine Ok.seq ?_
    refine Ok.region (σ' := ⟨[(2, (S ([] : Str))), (3, (.sref 3)), (4, (.v (.int .i64 31)))], [(3, (.rows true 54 2 (([] : List T_api_Field).map e_api_Field)))]⟩) ?_ ?_
    · refine .cv (VOk.asg (d := (S ([] : Str))) rfl rfl) rfl rfl ?_
      refine OpsOk.cons rfl (.nilT 3 54 2 (.inl rfl) rfl rfl) ?_
      refine .cv (VOk.asg (d := (.v (.int .i64 31))) rfl rfl) rfl rfl ?_
      exact .done (.rf rfl rfl)
    refine Ok.frzL 3 (e := e_api_Field) (xs := ([] : List T_api_Field)) rfl ?_
    refine Ok.ret ?_
    obtain rfl := Option.some.inj H
    exact ⟨.inl rfl, ⟨_, (.cons (.tmp rfl) (.cons (.tmp rfl) (.cons (.tmp rfl) .nil))), rfl⟩, trivial⟩
  · replace H := ifF H hb38
    refine Ok.skip ?_
    refine Ok.block ?_
    refine Ok.le (σ' := ⟨[(0, (S a0)), (3, (.sref 3)), (5, (.bref 15 0)), (6, (S t3.1)), (8, (S t7.1))], [(3, (.rows true 54 2 (([] : List T_api_Field).map e_api_Field))), (15, (.box .ex [(S t7.2.S_), (.v (.int .i64 t7.2.At_))]))]⟩) (.rf rfl rfl) ?_
    refine Ok.loop (fun m19 σ => ∃ (y15_0_14 : Str) (y15_1_15 : Int) (y3_13 : List T_api_Field), σ = ⟨[(0, (S a0)), (3, (.sref 3)), (5, (.bref 15 0)), (6, (S t3.1)), (8, (S t7.1))], [(3, (.rows true 54 2 (y3_13.map e_api_Field))), (15, (.box .ex [(S y15_0_14), (.v (.int .i64 y15_1_15))]))]⟩ ∧ field_ParseType.l0 k a0 t3 t7 m19 y15_0_14 y15_1_15 y3_13 = some r) k ⟨t7.2.S_, t7.2.At_, ([] : List T_api_Field), rfl, H⟩ ?_
    rintro m19 σ ⟨y15_0_14, y15_1_15, y3_13, rfl, H⟩
    cases m19 with
    | zero => exact absurd H (by simp [field_ParseType.l0])
    | succ m19 =>
      unfold field_ParseType.l0 at H
      refine Ok.block ?_
      refine Ok.seq ?_
      obtain ⟨t20, h21, H⟩ := bindE H
      refine Ok.region (σ' := ⟨[(0, (S a0)), (3, (.sref 3)), (5, (.bref 15 0)), (6, (S t3.1)), (8, (S t7.1))], [(3, (.rows true 54 2 (y3_13.map e_api_Field))), (15, (.box .ex [(S t20.S_), (.v (.int .i64 t20.At_))]))]⟩) ?_ ?_
      · refine .cv (VOk.mv (d := (.bref 15 0)) rfl rfl) rfl rfl ?_
        refine OpsOk.cons rfl (OpOk.callB (e := .ex) (ds0 := [(.bref 15 0)]) 15 rfl (.same _) cl45 (fun b => ((field_scanner_blanks.ok h21) b)) rfl ⟨.same _, trivial⟩ rfl rfl rfl rfl rfl) ?_
        exact .done (.rf rfl rfl)
      refine Ok.seq ?_
      refine Ok.seq ?_
      refine Ok.region (σ' := ⟨[(0, (S a0)), (3, (.sref 3)), (5, (.bref 15 0)), (6, (S t3.1)), (8, (S t7.1)), (42, (.v (.bool (t20.At_ == (a0.length : Int)))))], [(3, (.rows true 54 2 (y3_13.map e_api_Field))), (15, (.box .ex [(S t20.S_), (.v (.int .i64 t20.At_))]))]⟩) ?_ ?_
      · refine .cv (VOk.mv (d := (.bref 15 0)) rfl rfl) rfl rfl ?_
        refine .cv (VOk.nilCheckB rfl rfl rfl) rfl rfl ?_
        refine .cv (VOk.to (VOk.fieldB rfl Tryd.underlying71 rfl sz3 rfl rfl) rfl) rfl rfl ?_
        refine .cv (VOk.loadB (d := (.v (.int .i64 t20.At_))) rfl Tryd.underlying3 rfl rfl rfl rfl) rfl rfl ?_
        refine .cv (VOk.mv (d := (S a0)) rfl rfl) rfl rfl ?_
        refine .cv (VOk.lenStr (s := a0) rfl Tryd.underlying9 rfl) rfl rfl ?_
        refine .cv (VOk.arith (op := .eql) (k := .i64) (a := t20.At_) (b := (a0.length : Int)) rfl rfl rfl rfl) rfl rfl ?_
        exact .done (.rf rfl rfl)
      refine Ok.test (b := (t20.At_ == (a0.length : Int))) rfl (fun hb37 => ?_) (fun hb37 => ?_)
      · replace H := ifT H hb37
        refine Ok.seq ?_
        obtain ⟨c22, H⟩ := assertE H
        obtain ⟨c23, H⟩ := assertE H
        obtain ⟨t24, h25, H⟩ := bindE H
        refine Ok.region (σ' := ⟨[(2, (S t24)), (3, (.sref 3)), (4, (.v (.int .i64 0)))], [(3, (.rows true 54 2 (y3_13.map e_api_Field)))]⟩) ?_ ?_
        · refine .cv (VOk.mv (d := (S t3.1)) rfl rfl) rfl rfl ?_
          refine .cv (VOk.cat (a := t3.1) (b := ([47] : Str)) rfl rfl rfl c22) rfl rfl ?_
          refine .cv (VOk.mv (d := (S t7.1)) rfl rfl) rfl rfl ?_
          refine .cv (VOk.cat (a := (t3.1 ++ ([47] : Str))) (b := t7.1) rfl rfl rfl c23) rfl rfl ?_
          refine .cg (GOk.call rfl rfl cl34 rfl (field_lower.ok h25) rfl) rfl rfl ?_
          refine .cv (VOk.mv (d := (.sref 3)) rfl rfl) rfl rfl ?_
          refine .cv (VOk.asg (d := (S t24)) rfl rfl) rfl rfl ?_
          refine .cv (VOk.asg (d := (.sref 3)) rfl rfl) rfl rfl ?_
          refine .cv (VOk.asg (d := (.v (.int .i64 0))) rfl rfl) rfl rfl ?_
          exact .done (.rf rfl rfl)
        refine Ok.frzL 3 (e := e_api_Field) (xs := y3_13) rfl ?_
        refine Ok.ret ?_
        obtain rfl := Option.some.inj H
        exact ⟨.inl rfl, ⟨_, (.cons (.tmp rfl) (.cons (.tmp rfl) (.cons (.tmp rfl) .nil))), rfl⟩, trivial⟩
      · replace H := ifF H hb37
        refine Ok.skip ?_
        refine Ok.seq ?_
        refine Ok.seq ?_
        obtain ⟨t26, h27, H⟩ := bindE H
        refine Ok.region (σ' := ⟨[(0, (S a0)), (3, (.sref 3)), (5, (.bref 15 0)), (6, (S t3.1)), (8, (S t7.1)), (51, (.v (.bool (!t26.1))))], [(3, (.rows true 54 2 (y3_13.map e_api_Field))), (15, (.box .ex [(S t26.2.S_), (.v (.int .i64 t26.2.At_))]))]⟩) ?_ ?_
        · refine .cv (VOk.mv (d := (.bref 15 0)) rfl rfl) rfl rfl ?_
          refine OpsOk.cons rfl (OpOk.callB (e := .ex) (ds0 := [(.bref 15 0), (.v (.int .u8 59))]) 15 rfl (.same _) cl47 (fun b => ((field_scanner_sign.ok h27) b)) rfl ⟨.same _, .same _, trivial⟩ rfl rfl rfl rfl rfl) ?_
          refine .cv (VOk.not (b := t26.1) rfl rfl) rfl rfl ?_
          exact .done (.rf rfl rfl)
        refine Ok.test (b := (!t26.1)) rfl (fun hb36 => ?_) (fun hb36 => ?_)
        · replace H := ifT H hb36
          refine Ok.seq ?_
          refine Ok.region (σ' := ⟨[(2, (S ([] : Str))), (3, (.sref 3)), (4, (.v (.int .i64 4)))], [(3, (.rows true 54 2 (([] : List T_api_Field).map e_api_Field)))]⟩) ?_ ?_
          · refine .cv (VOk.asg (d := (S ([] : Str))) rfl rfl) rfl rfl ?_
            refine OpsOk.cons rfl (.nilT 3 54 2 (.inl rfl) rfl rfl) ?_
            refine .cv (VOk.asg (d := (.v (.int .i64 4))) rfl rfl) rfl rfl ?_
            exact .done (.rf rfl rfl)
          refine Ok.frzL 3 (e := e_api_Field) (xs := ([] : List T_api_Field)) rfl ?_
          refine Ok.ret ?_
          obtain rfl := Option.some.inj H
          exact ⟨.inl rfl, ⟨_, (.cons (.tmp rfl) (.cons (.tmp rfl) (.cons (.tmp rfl) .nil))), rfl⟩, trivial⟩
        · replace H := ifF H hb36
          refine Ok.skip ?_
          refine Ok.seq ?_
          obtain ⟨t28, h29, H⟩ := bindE H
          refine Ok.region (σ' := ⟨[(0, (S a0)), (3, (.sref 3)), (5, (.bref 15 0)), (6, (S t3.1)), (8, (S t7.1)), (9, (.bref 9 0)), (10, (.v (.bool t28.2.1)))], [(3, (.rows true 54 2 (y3_13.map e_api_Field))), (9, (.box .ex [(S t28.1.Name), (S t28.1.Value)])), (15, (.box .ex [(S t28.2.2.S_), (.v (.int .i64 t28.2.2.At_))]))]⟩) ?_ ?_
          · refine .cv (VOk.mv (d := (.bref 15 0)) rfl rfl) rfl rfl ?_
            refine OpsOk.cons rfl (OpOk.callB (e := .ex) (ds0 := [(.bref 15 0)]) 15 rfl (.same _) cl48 (fun b => ((field_scanner_param.ok h29) b)) rfl ⟨.same _, trivial⟩ rfl rfl rfl rfl rfl) ?_
            refine .cv (VOk.mv (d := (.tup [(.agg (e_api_Field t28.1)), (.v (.bool t28.2.1))])) rfl rfl) rfl rfl ?_
            refine .cv (VOk.extract (d := (.agg (e_api_Field t28.1))) rfl rfl rfl) rfl rfl ?_
            refine .cv (VOk.extract (d := (.v (.bool t28.2.1))) rfl rfl rfl) rfl rfl ?_
            refine OpsOk.cons rfl (OpOk.alloc 9 [none, none] rfl zo54 rfl rfl) ?_
            refine OpsOk.cons rfl (OpOk.to (σ2 := St.put ⟨_, (9, (.box .ex [(S t28.1.Name), (S t28.1.Value)])) :: _⟩ _ .junk) (.storeB rfl sz54 rfl rfl rfl rfl rfl rfl) rfl) ?_
            refine .cv (VOk.asg (d := (.v (.bool t28.2.1))) rfl rfl) rfl rfl ?_
            exact .done (.rf rfl rfl)
          refine Ok.seq ?_
          refine Ok.seq ?_
          obtain ⟨t30, h31, H⟩ := bindE H
          refine Ok.region (σ' := ⟨[(0, (S a0)), (3, (.sref 3)), (5, (.bref 15 0)), (6, (S t3.1)), (8, (S t7.1)), (9, (.bref 9 0)), (10, (.v (.bool t28.2.1))), (12, (.v (.bool t30.2)))], [(3, (.rows true 54 2 (y3_13.map e_api_Field))), (9, (.box .ex [(S t28.1.Name), (S t28.1.Value)])), (15, (.box .ex [(S t28.2.2.S_), (.v (.int .i64 t28.2.2.At_))]))]⟩) ?_ ?_
          · refine .cv (VOk.mv (d := (.sref 3)) rfl rfl) rfl rfl ?_
            refine .cv (VOk.to (VOk.fieldB rfl Tryd.underlying54 rfl sz9 rfl rfl) rfl) rfl rfl ?_
            refine .cv (VOk.loadB (d := (S t28.1.Name)) rfl Tryd.underlying9 rfl rfl rfl rfl) rfl rfl ?_
            refine .cg (GOk.callV rfl rfl cl23 rfl (field_Param.ok h31) rfl) rfl rfl ?_
            refine .cv (VOk.mv (d := (.tup [(S t30.1), (.v (.bool t30.2))])) rfl rfl) rfl rfl ?_
            refine .cv (VOk.extract (d := (S t30.1)) rfl rfl rfl) rfl rfl ?_
            refine .cv (VOk.extract (d := (.v (.bool t30.2))) rfl rfl rfl) rfl rfl ?_
            refine .cv (VOk.asg (d := (S t30.1)) rfl rfl) rfl rfl ?_
            refine .cv (VOk.asg (d := (.v (.bool t30.2))) rfl rfl) rfl rfl ?_
            exact .done (.rf rfl rfl)
          refine Ok.seq ?_
          refine Ok.region (σ' := ⟨[(0, (S a0)), (3, (.sref 3)), (5, (.bref 15 0)), (6, (S t3.1)), (8, (S t7.1)), (9, (.bref 9 0)), (68, (.v (.bool ((!t28.2.1) || t30.2))))], [(3, (.rows true 54 2 (y3_13.map e_api_Field))), (9, (.box .ex [(S t28.1.Name), (S t28.1.Value)])), (15, (.box .ex [(S t28.2.2.S_), (.v (.int .i64 t28.2.2.At_))]))]⟩) ?_ ?_
          · refine .cv (VOk.mv (d := (.v (.bool t28.2.1))) rfl rfl) rfl rfl ?_
            refine .cv (VOk.not (b := t28.2.1) rfl rfl) rfl rfl ?_
            refine .cv (VOk.mv (d := (.v (.bool (!t28.2.1)))) rfl rfl) rfl rfl ?_
            refine OpsOk.consI rfl rfl rfl (.one rfl) rfl (fun hw32 => (VOk.g (VOk.mv (d := (.v (.bool t30.2))) rfl rfl))) ?_
            refine .cv (VOk.to (VOk.pickI (b := (!t28.2.1)) (p := true) (q := t30.2) rfl rfl (fun hp33 => rfl) (fun hp33 => (cT (f_beq hp33)))) (pickOr (!t28.2.1) t30.2)) rfl rfl ?_
            exact .done (.rf rfl rfl)
          refine Ok.test (b := ((!t28.2.1) || t30.2)) rfl (fun hb35 => ?_) (fun hb35 => ?_)
          · replace H := ifT H hb35
            refine Ok.seq ?_
            refine Ok.region (σ' := ⟨[(2, (S ([] : Str))), (3, (.sref 3)), (4, (.v (.int .i64 4)))], [(3, (.rows true 54 2 (([] : List T_api_Field).map e_api_Field)))]⟩) ?_ ?_
            · refine .cv (VOk.asg (d := (S ([] : Str))) rfl rfl) rfl rfl ?_
              refine OpsOk.cons rfl (.nilT 3 54 2 (.inl rfl) rfl rfl) ?_
              refine .cv (VOk.asg (d := (.v (.int .i64 4))) rfl rfl) rfl rfl ?_
              exact .done (.rf rfl rfl)
            refine Ok.frzL 3 (e := e_api_Field) (xs := ([] : List T_api_Field)) rfl ?_
            refine Ok.ret ?_
            obtain rfl := Option.some.inj H
            exact ⟨.inl rfl, ⟨_, (.cons (.tmp rfl) (.cons (.tmp rfl) (.cons (.tmp rfl) .nil))), rfl⟩, trivial⟩
          · replace H := ifF H hb35
            refine Ok.skip ?_
            obtain ⟨c34, H⟩ := assertE H
            refine Ok.region (σ' := ⟨[(0, (S a0)), (3, (.sref 3)), (5, (.bref 15 0)), (6, (S t3.1)), (8, (S t7.1))], [(3, (.rows true 54 2 ((y3_13 ++ ([t28.1] : List T_api_Field)).map e_api_Field))), (15, (.box .ex [(S t28.2.2.S_), (.v (.int .i64 t28.2.2.At_))]))]⟩) ?_ ?_
            · refine .cv (VOk.mv (d := (.sref 3)) rfl rfl) rfl rfl ?_
              refine .cv (VOk.to (d' := (.agg (e_api_Field t28.1))) (.loadBAgg rfl Tryd.underlying54 rfl sz54 rfl rfl rfl) rfl) rfl rfl ?_
              refine .cg (GOk.to (d' := (L 2 e_api_Field ([t28.1] : List T_api_Field))) (GOk.lit rfl Tryd.underlying42 sz54 zs54 rfl rfl rfl rfl) rfl) rfl rfl ?_
              refine OpsOk.cons rfl (OpOk.appendL (e := e_api_Field) (xs := y3_13) (ys := ([t28.1] : List T_api_Field)) rfl Tryd.underlying42 elt54 rfl rfl rfl c34 rfl) ?_
              refine .cv (VOk.asg (d := (.sref 3)) rfl rfl) rfl rfl ?_
              exact .done (.rf rfl rfl)
            exact ⟨m19, Nat.lt_succ_self m19, t28.2.2.S_, t28.2.2.At_, (y3_13 ++ ([t28.1] : List T_api_Field)), rfl, H⟩

/-! watchbill/watchbilllaw07.awake: function 8 -/
def watchbilllaw07_awake (k : Nat) : Option Bool := ((field_Print k ([(T_api_Field.mk ([67, 111, 110, 116, 101, 110, 116, 45, 73, 68] : Str) ([60, 97, 64, 98, 62] : Str))] : List T_api_Field)).bind fun (t1 : Str × Int) => (if t1.1.length + ([120] : Str).length ≤ 9223372036854775807 then ((field_Parse k (t1.1 ++ ([120] : Str))).bind fun (t4 : (List T_api_Field) × Str × Int) => ((field_ParseType k ([84, 101, 120, 116, 47, 88, 77, 76, 59, 32, 97, 61, 34, 98, 92, 34, 99, 34] : Str)).bind fun (t6 : Str × (List T_api_Field) × Int) => (if (((((((((t1.1 == ([67, 111, 110, 116, 101, 110, 116, 45, 73, 68, 58, 32, 60, 97, 64, 98, 62, 13, 10, 13, 10] : Str)) && (t1.2 == 0)) && ((t4.1.length : Int) == 1)) && (t4.2.1 == ([120] : Str))) && (t4.2.2 == 0)) && (t6.1 == ([116, 101, 120, 116, 47, 120, 109, 108] : Str))) && ((t6.2.1.length : Int) == 1)) == true) = true → (0 : Int) ≤ 0 ∧ 0 < (t6.2.1.length : Int)) then (((if ((((((((((t1.1 == ([67, 111, 110, 116, 101, 110, 116, 45, 73, 68, 58, 32, 60, 97, 64, 98, 62, 13, 10, 13, 10] : Str)) && (t1.2 == 0)) && ((t4.1.length : Int) == 1)) && (t4.2.1 == ([120] : Str))) && (t4.2.2 == 0)) && (t6.1 == ([116, 101, 120, 116, 47, 120, 109, 108] : Str))) && ((t6.2.1.length : Int) == 1)) && (((rd t6.2.1 0).Value) == ([98, 34, 99] : Str))) && (t6.2.2 == 0)) == true) = true then field_Token k ([97, 46, 98] : Str) else some default)).bind fun (t26 : Bool) => (((if (((((((((((t1.1 == ([67, 111, 110, 116, 101, 110, 116, 45, 73, 68, 58, 32, 60, 97, 64, 98, 62, 13, 10, 13, 10] : Str)) && (t1.2 == 0)) && ((t4.1.length : Int) == 1)) && (t4.2.1 == ([120] : Str))) && (t4.2.2 == 0)) && (t6.1 == ([116, 101, 120, 116, 47, 120, 109, 108] : Str))) && ((t6.2.1.length : Int) == 1)) && (((rd t6.2.1 0).Value) == ([98, 34, 99] : Str))) && (t6.2.2 == 0)) && t26) == true) = true then field_Token k ([97, 47, 98] : Str) else some default)).bind fun (t30 : Bool) => some (((((((((((t1.1 == ([67, 111, 110, 116, 101, 110, 116, 45, 73, 68, 58, 32, 60, 97, 64, 98, 62, 13, 10, 13, 10] : Str)) && (t1.2 == 0)) && ((t4.1.length : Int) == 1)) && (t4.2.1 == ([120] : Str))) && (t4.2.2 == 0)) && (t6.1 == ([116, 101, 120, 116, 47, 120, 109, 108] : Str))) && ((t6.2.1.length : Int) == 1)) && (((rd t6.2.1 0).Value) == ([98, 34, 99] : Str))) && (t6.2.2 == 0)) && t26) && (!t30)))) else none))) else none))
theorem watchbilllaw07_awake.ok {k : Nat} {r : Bool} (H : watchbilllaw07_awake k = some r) : Vx.Fn Tryd.prog 8 [] [] (.v (.bool r)) [] := by
  unfold watchbilllaw07_awake at H
  refine Vx.Fn.of_okR Tryd.func8 rfl (Nat.le_of_ble_eq_true rfl) ?_
  refine Ok.seq ?_
  refine Ok.region (σ' := ⟨[], []⟩) ?_ ?_
  · refine .cv (VOk.asg (d := (.v (.bool false))) rfl rfl) rfl rfl ?_
    exact .done (.rf rfl rfl)
  refine Ok.seq ?_
  obtain ⟨t1, h2, H⟩ := bindE H
  refine Ok.region (σ' := ⟨[(1, (S t1.1)), (2, (.v (.int .i64 t1.2)))], []⟩) ?_ ?_
  · refine .cv (VOk.to (d' := (.agg (e_api_Field (T_api_Field.mk ([67, 111, 110, 116, 101, 110, 116, 45, 73, 68] : Str) ([60, 97, 64, 98, 62] : Str))))) (.build [none, none] [(0, 1), (1, 1)] rfl Tryd.underlying34 (fa34 Tryd.underlying34) zo34 rfl rfl) rfl) rfl rfl ?_
    refine .cg (GOk.to (d' := (L 2 e_api_Field ([(T_api_Field.mk ([67, 111, 110, 116, 101, 110, 116, 45, 73, 68] : Str) ([60, 97, 64, 98, 62] : Str))] : List T_api_Field))) (GOk.lit rfl Tryd.underlying22 sz34 zs34 rfl rfl rfl rfl) rfl) rfl rfl ?_
    refine .cg (GOk.call rfl rfl cl10 rfl (field_Print.ok h2) rfl) rfl rfl ?_
    refine .cv (VOk.mv (d := (.tup [(S t1.1), (.v (.int .i64 t1.2))])) rfl rfl) rfl rfl ?_
    refine .cv (VOk.extract (d := (S t1.1)) rfl rfl rfl) rfl rfl ?_
    refine .cv (VOk.extract (d := (.v (.int .i64 t1.2))) rfl rfl rfl) rfl rfl ?_
    refine .cv (VOk.asg (d := (S t1.1)) rfl rfl) rfl rfl ?_
    refine .cv (VOk.asg (d := (.v (.int .i64 t1.2))) rfl rfl) rfl rfl ?_
    exact .done (.rf rfl rfl)
  refine Ok.seq ?_
  obtain ⟨c3, H⟩ := assertE H
  obtain ⟨t4, h5, H⟩ := bindE H
  refine Ok.region (σ' := ⟨[(1, (S t1.1)), (2, (.v (.int .i64 t1.2))), (3, (L 2 e_api_Field t4.1)), (4, (S t4.2.1)), (5, (.v (.int .i64 t4.2.2)))], []⟩) ?_ ?_
  · refine .cv (VOk.mv (d := (S t1.1)) rfl rfl) rfl rfl ?_
    refine .cv (VOk.cat (a := t1.1) (b := ([120] : Str)) rfl rfl rfl c3) rfl rfl ?_
    refine .cg (GOk.call rfl rfl cl11 rfl (field_Parse.ok h5) rfl) rfl rfl ?_
    refine .cv (VOk.mv (d := (.tup [(L 2 e_api_Field t4.1), (S t4.2.1), (.v (.int .i64 t4.2.2))])) rfl rfl) rfl rfl ?_
    refine .cv (VOk.extract (d := (L 2 e_api_Field t4.1)) rfl rfl rfl) rfl rfl ?_
    refine .cv (VOk.extract (d := (S t4.2.1)) rfl rfl rfl) rfl rfl ?_
    refine .cv (VOk.extract (d := (.v (.int .i64 t4.2.2))) rfl rfl rfl) rfl rfl ?_
    refine .cv (VOk.asg (d := (L 2 e_api_Field t4.1)) rfl rfl) rfl rfl ?_
    refine .cv (VOk.asg (d := (S t4.2.1)) rfl rfl) rfl rfl ?_
    refine .cv (VOk.asg (d := (.v (.int .i64 t4.2.2))) rfl rfl) rfl rfl ?_
    exact .done (.rf rfl rfl)
  refine Ok.seq ?_
  obtain ⟨t6, h7, H⟩ := bindE H
  refine Ok.region (σ' := ⟨[(1, (S t1.1)), (2, (.v (.int .i64 t1.2))), (3, (L 2 e_api_Field t4.1)), (4, (S t4.2.1)), (5, (.v (.int .i64 t4.2.2))), (6, (S t6.1)), (7, (L 2 e_api_Field t6.2.1)), (8, (.v (.int .i64 t6.2.2)))], []⟩) ?_ ?_
  · refine .cg (GOk.call rfl rfl cl21 rfl (field_ParseType.ok h7) rfl) rfl rfl ?_
    refine .cv (VOk.mv (d := (.tup [(S t6.1), (L 2 e_api_Field t6.2.1), (.v (.int .i64 t6.2.2))])) rfl rfl) rfl rfl ?_
    refine .cv (VOk.extract (d := (S t6.1)) rfl rfl rfl) rfl rfl ?_
    refine .cv (VOk.extract (d := (L 2 e_api_Field t6.2.1)) rfl rfl rfl) rfl rfl ?_
    refine .cv (VOk.extract (d := (.v (.int .i64 t6.2.2))) rfl rfl rfl) rfl rfl ?_
    refine .cv (VOk.asg (d := (S t6.1)) rfl rfl) rfl rfl ?_
    refine .cv (VOk.asg (d := (L 2 e_api_Field t6.2.1)) rfl rfl) rfl rfl ?_
    refine .cv (VOk.asg (d := (.v (.int .i64 t6.2.2))) rfl rfl) rfl rfl ?_
    exact .done (.rf rfl rfl)
  refine Ok.seq ?_
  obtain ⟨c21, H⟩ := assertE H
  obtain ⟨t26, h27, H⟩ := bindE H
  obtain ⟨t30, h31, H⟩ := bindE H
  refine Ok.region (σ' := ⟨[(0, (.v (.bool (((((((((((t1.1 == ([67, 111, 110, 116, 101, 110, 116, 45, 73, 68, 58, 32, 60, 97, 64, 98, 62, 13, 10, 13, 10] : Str)) && (t1.2 == 0)) && ((t4.1.length : Int) == 1)) && (t4.2.1 == ([120] : Str))) && (t4.2.2 == 0)) && (t6.1 == ([116, 101, 120, 116, 47, 120, 109, 108] : Str))) && ((t6.2.1.length : Int) == 1)) && (((rd t6.2.1 0).Value) == ([98, 34, 99] : Str))) && (t6.2.2 == 0)) && t26) && (!t30)))))], []⟩) ?_ ?_
  · refine .cv (VOk.mv (d := (S t1.1)) rfl rfl) rfl rfl ?_
    refine .cv (VOk.strOp (op := .eql) (a := t1.1) (b := ([67, 111, 110, 116, 101, 110, 116, 45, 73, 68, 58, 32, 60, 97, 64, 98, 62, 13, 10, 13, 10] : Str)) rfl rfl rfl rfl) rfl rfl ?_
    refine .cv (VOk.mv (d := (.v (.bool (t1.1 == ([67, 111, 110, 116, 101, 110, 116, 45, 73, 68, 58, 32, 60, 97, 64, 98, 62, 13, 10, 13, 10] : Str))))) rfl rfl) rfl rfl ?_
    refine OpsOk.consI rfl rfl rfl (.one rfl) rfl (fun hw8 => (VOk.g (VOk.mv (d := (.v (.int .i64 t1.2))) rfl rfl))) ?_
    refine OpsOk.consI rfl rfl rfl (.one rfl) rfl (fun hw8 => (GOk.fr (fr' := [(30, (.v (.int .i64 t1.2)))]) ⟨DLe.of_eq (cT hw8).symm, trivial⟩ (VOk.g (VOk.arith (op := .eql) (k := .i64) (a := t1.2) (b := 0) rfl rfl rfl rfl)))) ?_
    refine .cv (VOk.to (VOk.pickI (b := (t1.1 == ([67, 111, 110, 116, 101, 110, 116, 45, 73, 68, 58, 32, 60, 97, 64, 98, 62, 13, 10, 13, 10] : Str))) (p := (t1.2 == 0)) (q := false) rfl rfl (fun hp9 => (cT (t_beq hp9))) (fun hp9 => rfl)) (pickAnd (t1.1 == ([67, 111, 110, 116, 101, 110, 116, 45, 73, 68, 58, 32, 60, 97, 64, 98, 62, 13, 10, 13, 10] : Str)) (t1.2 == 0))) rfl rfl ?_
    refine .cv (VOk.mv (d := (.v (.bool ((t1.1 == ([67, 111, 110, 116, 101, 110, 116, 45, 73, 68, 58, 32, 60, 97, 64, 98, 62, 13, 10, 13, 10] : Str)) && (t1.2 == 0))))) rfl rfl) rfl rfl ?_
    refine OpsOk.consI rfl rfl rfl (.one rfl) rfl (fun hw10 => (VOk.g (VOk.mv (d := (L 2 e_api_Field t4.1)) rfl rfl))) ?_
    refine OpsOk.consI rfl rfl rfl (.one rfl) rfl (fun hw10 => (GOk.fr (fr' := [(34, (L 2 e_api_Field t4.1))]) ⟨DLe.of_eq (cT hw10).symm, trivial⟩ (VOk.g (VOk.lenL (e := e_api_Field) (xs := t4.1) rfl Tryd.underlying22 rfl)))) ?_
    refine OpsOk.consI rfl rfl rfl (.one rfl) rfl (fun hw10 => (GOk.fr (fr' := [(35, (.v (.int .i64 (t4.1.length : Int))))]) ⟨DLe.of_eq (cT hw10).symm, trivial⟩ (VOk.g (VOk.arith (op := .eql) (k := .i64) (a := (t4.1.length : Int)) (b := 1) rfl rfl rfl rfl)))) ?_
    refine .cv (VOk.to (VOk.pickI (b := ((t1.1 == ([67, 111, 110, 116, 101, 110, 116, 45, 73, 68, 58, 32, 60, 97, 64, 98, 62, 13, 10, 13, 10] : Str)) && (t1.2 == 0))) (p := ((t4.1.length : Int) == 1)) (q := false) rfl rfl (fun hp11 => (cT (t_beq hp11))) (fun hp11 => rfl)) (pickAnd ((t1.1 == ([67, 111, 110, 116, 101, 110, 116, 45, 73, 68, 58, 32, 60, 97, 64, 98, 62, 13, 10, 13, 10] : Str)) && (t1.2 == 0)) ((t4.1.length : Int) == 1))) rfl rfl ?_
    refine .cv (VOk.mv (d := (.v (.bool (((t1.1 == ([67, 111, 110, 116, 101, 110, 116, 45, 73, 68, 58, 32, 60, 97, 64, 98, 62, 13, 10, 13, 10] : Str)) && (t1.2 == 0)) && ((t4.1.length : Int) == 1))))) rfl rfl) rfl rfl ?_
    refine OpsOk.consI rfl rfl rfl (.one rfl) rfl (fun hw12 => (VOk.g (VOk.mv (d := (S t4.2.1)) rfl rfl))) ?_
    refine OpsOk.consI rfl rfl rfl (.one rfl) rfl (fun hw12 => (GOk.fr (fr' := [(39, (S t4.2.1))]) ⟨DLe.of_eq (cT hw12).symm, trivial⟩ (VOk.g (VOk.strOp (op := .eql) (a := t4.2.1) (b := ([120] : Str)) rfl rfl rfl rfl)))) ?_
    refine .cv (VOk.to (VOk.pickI (b := (((t1.1 == ([67, 111, 110, 116, 101, 110, 116, 45, 73, 68, 58, 32, 60, 97, 64, 98, 62, 13, 10, 13, 10] : Str)) && (t1.2 == 0)) && ((t4.1.length : Int) == 1))) (p := (t4.2.1 == ([120] : Str))) (q := false) rfl rfl (fun hp13 => (cT (t_beq hp13))) (fun hp13 => rfl)) (pickAnd (((t1.1 == ([67, 111, 110, 116, 101, 110, 116, 45, 73, 68, 58, 32, 60, 97, 64, 98, 62, 13, 10, 13, 10] : Str)) && (t1.2 == 0)) && ((t4.1.length : Int) == 1)) (t4.2.1 == ([120] : Str)))) rfl rfl ?_
    refine .cv (VOk.mv (d := (.v (.bool ((((t1.1 == ([67, 111, 110, 116, 101, 110, 116, 45, 73, 68, 58, 32, 60, 97, 64, 98, 62, 13, 10, 13, 10] : Str)) && (t1.2 == 0)) && ((t4.1.length : Int) == 1)) && (t4.2.1 == ([120] : Str)))))) rfl rfl) rfl rfl ?_
    refine OpsOk.consI rfl rfl rfl (.one rfl) rfl (fun hw14 => (VOk.g (VOk.mv (d := (.v (.int .i64 t4.2.2))) rfl rfl))) ?_
    refine OpsOk.consI rfl rfl rfl (.one rfl) rfl (fun hw14 => (GOk.fr (fr' := [(43, (.v (.int .i64 t4.2.2)))]) ⟨DLe.of_eq (cT hw14).symm, trivial⟩ (VOk.g (VOk.arith (op := .eql) (k := .i64) (a := t4.2.2) (b := 0) rfl rfl rfl rfl)))) ?_
    refine .cv (VOk.to (VOk.pickI (b := ((((t1.1 == ([67, 111, 110, 116, 101, 110, 116, 45, 73, 68, 58, 32, 60, 97, 64, 98, 62, 13, 10, 13, 10] : Str)) && (t1.2 == 0)) && ((t4.1.length : Int) == 1)) && (t4.2.1 == ([120] : Str)))) (p := (t4.2.2 == 0)) (q := false) rfl rfl (fun hp15 => (cT (t_beq hp15))) (fun hp15 => rfl)) (pickAnd ((((t1.1 == ([67, 111, 110, 116, 101, 110, 116, 45, 73, 68, 58, 32, 60, 97, 64, 98, 62, 13, 10, 13, 10] : Str)) && (t1.2 == 0)) && ((t4.1.length : Int) == 1)) && (t4.2.1 == ([120] : Str))) (t4.2.2 == 0))) rfl rfl ?_
    refine .cv (VOk.mv (d := (.v (.bool (((((t1.1 == ([67, 111, 110, 116, 101, 110, 116, 45, 73, 68, 58, 32, 60, 97, 64, 98, 62, 13, 10, 13, 10] : Str)) && (t1.2 == 0)) && ((t4.1.length : Int) == 1)) && (t4.2.1 == ([120] : Str))) && (t4.2.2 == 0))))) rfl rfl) rfl rfl ?_
    refine OpsOk.consI rfl rfl rfl (.one rfl) rfl (fun hw16 => (VOk.g (VOk.mv (d := (S t6.1)) rfl rfl))) ?_
    refine OpsOk.consI rfl rfl rfl (.one rfl) rfl (fun hw16 => (GOk.fr (fr' := [(47, (S t6.1))]) ⟨DLe.of_eq (cT hw16).symm, trivial⟩ (VOk.g (VOk.strOp (op := .eql) (a := t6.1) (b := ([116, 101, 120, 116, 47, 120, 109, 108] : Str)) rfl rfl rfl rfl)))) ?_
    refine .cv (VOk.to (VOk.pickI (b := (((((t1.1 == ([67, 111, 110, 116, 101, 110, 116, 45, 73, 68, 58, 32, 60, 97, 64, 98, 62, 13, 10, 13, 10] : Str)) && (t1.2 == 0)) && ((t4.1.length : Int) == 1)) && (t4.2.1 == ([120] : Str))) && (t4.2.2 == 0))) (p := (t6.1 == ([116, 101, 120, 116, 47, 120, 109, 108] : Str))) (q := false) rfl rfl (fun hp17 => (cT (t_beq hp17))) (fun hp17 => rfl)) (pickAnd (((((t1.1 == ([67, 111, 110, 116, 101, 110, 116, 45, 73, 68, 58, 32, 60, 97, 64, 98, 62, 13, 10, 13, 10] : Str)) && (t1.2 == 0)) && ((t4.1.length : Int) == 1)) && (t4.2.1 == ([120] : Str))) && (t4.2.2 == 0)) (t6.1 == ([116, 101, 120, 116, 47, 120, 109, 108] : Str)))) rfl rfl ?_
    refine .cv (VOk.mv (d := (.v (.bool ((((((t1.1 == ([67, 111, 110, 116, 101, 110, 116, 45, 73, 68, 58, 32, 60, 97, 64, 98, 62, 13, 10, 13, 10] : Str)) && (t1.2 == 0)) && ((t4.1.length : Int) == 1)) && (t4.2.1 == ([120] : Str))) && (t4.2.2 == 0)) && (t6.1 == ([116, 101, 120, 116, 47, 120, 109, 108] : Str)))))) rfl rfl) rfl rfl ?_
    refine OpsOk.consI rfl rfl rfl (.one rfl) rfl (fun hw18 => (VOk.g (VOk.mv (d := (L 2 e_api_Field t6.2.1)) rfl rfl))) ?_
    refine OpsOk.consI rfl rfl rfl (.one rfl) rfl (fun hw18 => (GOk.fr (fr' := [(51, (L 2 e_api_Field t6.2.1))]) ⟨DLe.of_eq (cT hw18).symm, trivial⟩ (VOk.g (VOk.lenL (e := e_api_Field) (xs := t6.2.1) rfl Tryd.underlying42 rfl)))) ?_
    refine OpsOk.consI rfl rfl rfl (.one rfl) rfl (fun hw18 => (GOk.fr (fr' := [(52, (.v (.int .i64 (t6.2.1.length : Int))))]) ⟨DLe.of_eq (cT hw18).symm, trivial⟩ (VOk.g (VOk.arith (op := .eql) (k := .i64) (a := (t6.2.1.length : Int)) (b := 1) rfl rfl rfl rfl)))) ?_
    refine .cv (VOk.to (VOk.pickI (b := ((((((t1.1 == ([67, 111, 110, 116, 101, 110, 116, 45, 73, 68, 58, 32, 60, 97, 64, 98, 62, 13, 10, 13, 10] : Str)) && (t1.2 == 0)) && ((t4.1.length : Int) == 1)) && (t4.2.1 == ([120] : Str))) && (t4.2.2 == 0)) && (t6.1 == ([116, 101, 120, 116, 47, 120, 109, 108] : Str)))) (p := ((t6.2.1.length : Int) == 1)) (q := false) rfl rfl (fun hp19 => (cT (t_beq hp19))) (fun hp19 => rfl)) (pickAnd ((((((t1.1 == ([67, 111, 110, 116, 101, 110, 116, 45, 73, 68, 58, 32, 60, 97, 64, 98, 62, 13, 10, 13, 10] : Str)) && (t1.2 == 0)) && ((t4.1.length : Int) == 1)) && (t4.2.1 == ([120] : Str))) && (t4.2.2 == 0)) && (t6.1 == ([116, 101, 120, 116, 47, 120, 109, 108] : Str))) ((t6.2.1.length : Int) == 1))) rfl rfl ?_
    refine .cv (VOk.mv (d := (.v (.bool (((((((t1.1 == ([67, 111, 110, 116, 101, 110, 116, 45, 73, 68, 58, 32, 60, 97, 64, 98, 62, 13, 10, 13, 10] : Str)) && (t1.2 == 0)) && ((t4.1.length : Int) == 1)) && (t4.2.1 == ([120] : Str))) && (t4.2.2 == 0)) && (t6.1 == ([116, 101, 120, 116, 47, 120, 109, 108] : Str))) && ((t6.2.1.length : Int) == 1))))) rfl rfl) rfl rfl ?_
    refine OpsOk.consI rfl rfl rfl (.one rfl) rfl (fun hw20 => (VOk.g (VOk.mv (d := (L 2 e_api_Field t6.2.1)) rfl rfl))) ?_
    refine OpsOk.consI rfl rfl rfl (.one rfl) rfl (fun hw20 => (GOk.fr (fr' := [(56, (L 2 e_api_Field t6.2.1))]) ⟨DLe.of_eq (cT hw20).symm, trivial⟩ (VOk.g (VOk.indexL (sz := 2) (e := e_api_Field) (xs := t6.2.1) (i := 0) rfl Tryd.underlying42 sz54 rfl rfl (c21 hw20))))) ?_
    refine OpsOk.consI rfl rfl rfl (.one rfl) rfl (fun hw20 => (GOk.fr (fr' := [(57, (.fp (e_api_Field (rd t6.2.1 0)) 0))]) ⟨DLe.of_eq (cT hw20).symm, trivial⟩ (VOk.g (VOk.to (VOk.fieldFp rfl Tryd.underlying54 rfl sz9 rfl) rfl)))) ?_
    refine OpsOk.consI rfl rfl rfl (.one rfl) rfl (fun hw20 => (GOk.fr (fr' := [(58, (.fp (e_api_Field (rd t6.2.1 0)) 1))]) ⟨DLe.of_eq (cT hw20).symm, trivial⟩ (VOk.g (VOk.loadFp (d := (S ((rd t6.2.1 0).Value))) rfl Tryd.underlying9 rfl rfl rfl)))) ?_
    refine OpsOk.consI rfl rfl rfl (.one rfl) rfl (fun hw20 => (GOk.fr (fr' := [(59, (S ((rd t6.2.1 0).Value)))]) ⟨DLe.of_eq (cT hw20).symm, trivial⟩ (VOk.g (VOk.strOp (op := .eql) (a := (rd t6.2.1 0).Value) (b := ([98, 34, 99] : Str)) rfl rfl rfl rfl)))) ?_
    refine .cv (VOk.to (VOk.pickI (b := (((((((t1.1 == ([67, 111, 110, 116, 101, 110, 116, 45, 73, 68, 58, 32, 60, 97, 64, 98, 62, 13, 10, 13, 10] : Str)) && (t1.2 == 0)) && ((t4.1.length : Int) == 1)) && (t4.2.1 == ([120] : Str))) && (t4.2.2 == 0)) && (t6.1 == ([116, 101, 120, 116, 47, 120, 109, 108] : Str))) && ((t6.2.1.length : Int) == 1))) (p := (((rd t6.2.1 0).Value) == ([98, 34, 99] : Str))) (q := false) rfl rfl (fun hp22 => (cT (t_beq hp22))) (fun hp22 => rfl)) (pickAnd (((((((t1.1 == ([67, 111, 110, 116, 101, 110, 116, 45, 73, 68, 58, 32, 60, 97, 64, 98, 62, 13, 10, 13, 10] : Str)) && (t1.2 == 0)) && ((t4.1.length : Int) == 1)) && (t4.2.1 == ([120] : Str))) && (t4.2.2 == 0)) && (t6.1 == ([116, 101, 120, 116, 47, 120, 109, 108] : Str))) && ((t6.2.1.length : Int) == 1)) (((rd t6.2.1 0).Value) == ([98, 34, 99] : Str)))) rfl rfl ?_
    refine .cv (VOk.mv (d := (.v (.bool ((((((((t1.1 == ([67, 111, 110, 116, 101, 110, 116, 45, 73, 68, 58, 32, 60, 97, 64, 98, 62, 13, 10, 13, 10] : Str)) && (t1.2 == 0)) && ((t4.1.length : Int) == 1)) && (t4.2.1 == ([120] : Str))) && (t4.2.2 == 0)) && (t6.1 == ([116, 101, 120, 116, 47, 120, 109, 108] : Str))) && ((t6.2.1.length : Int) == 1)) && (((rd t6.2.1 0).Value) == ([98, 34, 99] : Str)))))) rfl rfl) rfl rfl ?_
    refine OpsOk.consI rfl rfl rfl (.one rfl) rfl (fun hw23 => (VOk.g (VOk.mv (d := (.v (.int .i64 t6.2.2))) rfl rfl))) ?_
    refine OpsOk.consI rfl rfl rfl (.one rfl) rfl (fun hw23 => (GOk.fr (fr' := [(63, (.v (.int .i64 t6.2.2)))]) ⟨DLe.of_eq (cT hw23).symm, trivial⟩ (VOk.g (VOk.arith (op := .eql) (k := .i64) (a := t6.2.2) (b := 0) rfl rfl rfl rfl)))) ?_
    refine .cv (VOk.to (VOk.pickI (b := ((((((((t1.1 == ([67, 111, 110, 116, 101, 110, 116, 45, 73, 68, 58, 32, 60, 97, 64, 98, 62, 13, 10, 13, 10] : Str)) && (t1.2 == 0)) && ((t4.1.length : Int) == 1)) && (t4.2.1 == ([120] : Str))) && (t4.2.2 == 0)) && (t6.1 == ([116, 101, 120, 116, 47, 120, 109, 108] : Str))) && ((t6.2.1.length : Int) == 1)) && (((rd t6.2.1 0).Value) == ([98, 34, 99] : Str)))) (p := (t6.2.2 == 0)) (q := false) rfl rfl (fun hp24 => (cT (t_beq hp24))) (fun hp24 => rfl)) (pickAnd ((((((((t1.1 == ([67, 111, 110, 116, 101, 110, 116, 45, 73, 68, 58, 32, 60, 97, 64, 98, 62, 13, 10, 13, 10] : Str)) && (t1.2 == 0)) && ((t4.1.length : Int) == 1)) && (t4.2.1 == ([120] : Str))) && (t4.2.2 == 0)) && (t6.1 == ([116, 101, 120, 116, 47, 120, 109, 108] : Str))) && ((t6.2.1.length : Int) == 1)) && (((rd t6.2.1 0).Value) == ([98, 34, 99] : Str))) (t6.2.2 == 0))) rfl rfl ?_
    refine .cv (VOk.mv (d := (.v (.bool (((((((((t1.1 == ([67, 111, 110, 116, 101, 110, 116, 45, 73, 68, 58, 32, 60, 97, 64, 98, 62, 13, 10, 13, 10] : Str)) && (t1.2 == 0)) && ((t4.1.length : Int) == 1)) && (t4.2.1 == ([120] : Str))) && (t4.2.2 == 0)) && (t6.1 == ([116, 101, 120, 116, 47, 120, 109, 108] : Str))) && ((t6.2.1.length : Int) == 1)) && (((rd t6.2.1 0).Value) == ([98, 34, 99] : Str))) && (t6.2.2 == 0))))) rfl rfl) rfl rfl ?_
    refine OpsOk.consI rfl rfl rfl (.one rfl) rfl (fun hw25 => (GOk.call rfl rfl cl16 rfl (field_Token.ok (ifT h27 hw25)) rfl)) ?_
    refine .cv (VOk.to (VOk.pickI (b := (((((((((t1.1 == ([67, 111, 110, 116, 101, 110, 116, 45, 73, 68, 58, 32, 60, 97, 64, 98, 62, 13, 10, 13, 10] : Str)) && (t1.2 == 0)) && ((t4.1.length : Int) == 1)) && (t4.2.1 == ([120] : Str))) && (t4.2.2 == 0)) && (t6.1 == ([116, 101, 120, 116, 47, 120, 109, 108] : Str))) && ((t6.2.1.length : Int) == 1)) && (((rd t6.2.1 0).Value) == ([98, 34, 99] : Str))) && (t6.2.2 == 0))) (p := t26) (q := false) rfl rfl (fun hp28 => (cT (t_beq hp28))) (fun hp28 => rfl)) (pickAnd (((((((((t1.1 == ([67, 111, 110, 116, 101, 110, 116, 45, 73, 68, 58, 32, 60, 97, 64, 98, 62, 13, 10, 13, 10] : Str)) && (t1.2 == 0)) && ((t4.1.length : Int) == 1)) && (t4.2.1 == ([120] : Str))) && (t4.2.2 == 0)) && (t6.1 == ([116, 101, 120, 116, 47, 120, 109, 108] : Str))) && ((t6.2.1.length : Int) == 1)) && (((rd t6.2.1 0).Value) == ([98, 34, 99] : Str))) && (t6.2.2 == 0)) t26)) rfl rfl ?_
    refine .cv (VOk.mv (d := (.v (.bool ((((((((((t1.1 == ([67, 111, 110, 116, 101, 110, 116, 45, 73, 68, 58, 32, 60, 97, 64, 98, 62, 13, 10, 13, 10] : Str)) && (t1.2 == 0)) && ((t4.1.length : Int) == 1)) && (t4.2.1 == ([120] : Str))) && (t4.2.2 == 0)) && (t6.1 == ([116, 101, 120, 116, 47, 120, 109, 108] : Str))) && ((t6.2.1.length : Int) == 1)) && (((rd t6.2.1 0).Value) == ([98, 34, 99] : Str))) && (t6.2.2 == 0)) && t26)))) rfl rfl) rfl rfl ?_
    refine OpsOk.consI rfl rfl rfl (.one rfl) rfl (fun hw29 => (GOk.call rfl rfl cl16 rfl (field_Token.ok (ifT h31 hw29)) rfl)) ?_
    refine OpsOk.consI rfl rfl rfl (.one rfl) rfl (fun hw29 => (GOk.fr (fr' := [(70, (.v (.bool t30)))]) ⟨DLe.of_eq (cT hw29).symm, trivial⟩ (VOk.g (VOk.not (b := t30) rfl rfl)))) ?_
    refine .cv (VOk.to (VOk.pickI (b := ((((((((((t1.1 == ([67, 111, 110, 116, 101, 110, 116, 45, 73, 68, 58, 32, 60, 97, 64, 98, 62, 13, 10, 13, 10] : Str)) && (t1.2 == 0)) && ((t4.1.length : Int) == 1)) && (t4.2.1 == ([120] : Str))) && (t4.2.2 == 0)) && (t6.1 == ([116, 101, 120, 116, 47, 120, 109, 108] : Str))) && ((t6.2.1.length : Int) == 1)) && (((rd t6.2.1 0).Value) == ([98, 34, 99] : Str))) && (t6.2.2 == 0)) && t26)) (p := (!t30)) (q := false) rfl rfl (fun hp32 => (cT (t_beq hp32))) (fun hp32 => rfl)) (pickAnd ((((((((((t1.1 == ([67, 111, 110, 116, 101, 110, 116, 45, 73, 68, 58, 32, 60, 97, 64, 98, 62, 13, 10, 13, 10] : Str)) && (t1.2 == 0)) && ((t4.1.length : Int) == 1)) && (t4.2.1 == ([120] : Str))) && (t4.2.2 == 0)) && (t6.1 == ([116, 101, 120, 116, 47, 120, 109, 108] : Str))) && ((t6.2.1.length : Int) == 1)) && (((rd t6.2.1 0).Value) == ([98, 34, 99] : Str))) && (t6.2.2 == 0)) && t26) (!t30))) rfl rfl ?_
    refine .cv (VOk.asg (d := (.v (.bool (((((((((((t1.1 == ([67, 111, 110, 116, 101, 110, 116, 45, 73, 68, 58, 32, 60, 97, 64, 98, 62, 13, 10, 13, 10] : Str)) && (t1.2 == 0)) && ((t4.1.length : Int) == 1)) && (t4.2.1 == ([120] : Str))) && (t4.2.2 == 0)) && (t6.1 == ([116, 101, 120, 116, 47, 120, 109, 108] : Str))) && ((t6.2.1.length : Int) == 1)) && (((rd t6.2.1 0).Value) == ([98, 34, 99] : Str))) && (t6.2.2 == 0)) && t26) && (!t30))))) rfl rfl) rfl rfl ?_
    exact .done (.rf rfl rfl)
  refine Ok.ret ?_
  obtain rfl := Option.some.inj H
  exact ⟨.inl rfl, ⟨_, (.cons (.tmp rfl) .nil), rfl⟩, trivial⟩

/-! watchbill/watchbilllaw07.FewParams: function 18 -/
def watchbilllaw07_FewParams.l0 (k : Nat) (a0 : List T_api_Field) : Nat → Int → Int → Option Bool
  | 0, _, _ => none
  | m5 + 1, x3_1, x4_2 => (if ((decide (x4_2 < (a0.length : Int))) && (decide (x3_1 < 5000))) = true then (if (0 : Int) ≤ x4_2 ∧ x4_2 < (a0.length : Int) then (if (0 : Int) ≤ x4_2 ∧ x4_2 < (a0.length : Int) then watchbilllaw07_FewParams.l0 k a0 m5 (IntKind.i64.wrap ((IntKind.i64.wrap (x3_1 + (if 5000 < (((rd a0 x4_2).Name).length : Int) then 5000 else (((rd a0 x4_2).Name).length : Int)))) + (if 5000 < (((rd a0 x4_2).Value).length : Int) then 5000 else (((rd a0 x4_2).Value).length : Int)))) (IntKind.i64.wrap (x4_2 + 1)) else none) else none) else some (decide (x3_1 < 5000)))
def watchbilllaw07_FewParams (k : Nat) (a0 : List T_api_Field) : Option Bool := watchbilllaw07_FewParams.l0 k a0 k (if 5000 < (a0.length : Int) then 5000 else (a0.length : Int)) 0
theorem watchbilllaw07_FewParams.ok {k : Nat} {a0 : List T_api_Field} {r : Bool} (H : watchbilllaw07_FewParams k a0 = some r) : Vx.Fn Tryd.prog 18 [(L 2 e_api_Field a0)] [] (.v (.bool r)) [] := by
  unfold watchbilllaw07_FewParams at H
  refine Vx.Fn.of_okR Tryd.func18 rfl (Nat.le_of_ble_eq_true rfl) ?_
  refine Ok.seq ?_
  refine Ok.region (σ' := ⟨[(0, (L 2 e_api_Field a0))], []⟩) ?_ ?_
  · refine .cv (VOk.asg (d := (.v (.bool false))) rfl rfl) rfl rfl ?_
    exact .done (.rf rfl rfl)
  refine Ok.seq ?_
  refine Ok.region (σ' := ⟨[(0, (L 2 e_api_Field a0)), (3, (.v (.int .i64 (if 5000 < (a0.length : Int) then 5000 else (a0.length : Int)))))], []⟩) ?_ ?_
  · refine .cv (VOk.mv (d := (L 2 e_api_Field a0)) rfl rfl) rfl rfl ?_
    refine .cv (VOk.lenL (e := e_api_Field) (xs := a0) rfl Tryd.underlying42 rfl) rfl rfl ?_
    refine .cv (VOk.min2 (a := (a0.length : Int)) (b := 5000) rfl rfl rfl) rfl rfl ?_
    refine .cv (VOk.asg (d := (.v (.int .i64 (if 5000 < (a0.length : Int) then 5000 else (a0.length : Int))))) rfl rfl) rfl rfl ?_
    exact .done (.rf rfl rfl)
  refine Ok.seq ?_
  refine Ok.seq ?_
  refine Ok.region (σ' := ⟨[(0, (L 2 e_api_Field a0)), (3, (.v (.int .i64 (if 5000 < (a0.length : Int) then 5000 else (a0.length : Int))))), (4, (.v (.int .i64 0)))], []⟩) ?_ ?_
  · refine .cv (VOk.asg (d := (.v (.int .i64 0))) rfl rfl) rfl rfl ?_
    exact .done (.rf rfl rfl)
  refine Ok.block ?_
  refine Ok.le (σ' := ⟨[(0, (L 2 e_api_Field a0)), (3, (.v (.int .i64 (if 5000 < (a0.length : Int) then 5000 else (a0.length : Int))))), (4, (.v (.int .i64 0)))], []⟩) (.rf rfl rfl) ?_
  refine Ok.loop (fun m5 σ => ∃ (x3_1 : Int) (x4_2 : Int), σ = ⟨[(0, (L 2 e_api_Field a0)), (3, (.v (.int .i64 x3_1))), (4, (.v (.int .i64 x4_2)))], []⟩ ∧ watchbilllaw07_FewParams.l0 k a0 m5 x3_1 x4_2 = some r) k ⟨(if 5000 < (a0.length : Int) then 5000 else (a0.length : Int)), 0, rfl, H⟩ ?_
  rintro m5 σ ⟨x3_1, x4_2, rfl, H⟩
  cases m5 with
  | zero => exact absurd H (by simp [watchbilllaw07_FewParams.l0])
  | succ m5 =>
    unfold watchbilllaw07_FewParams.l0 at H
    refine Ok.seq ?_
    refine Ok.seq ?_
    refine Ok.region (σ' := ⟨[(0, (L 2 e_api_Field a0)), (3, (.v (.int .i64 x3_1))), (4, (.v (.int .i64 x4_2))), (15, (.v (.bool ((decide (x4_2 < (a0.length : Int))) && (decide (x3_1 < 5000))))))], []⟩) ?_ ?_
    · refine .cv (VOk.mv (d := (.v (.int .i64 x4_2))) rfl rfl) rfl rfl ?_
      refine .cv (VOk.mv (d := (L 2 e_api_Field a0)) rfl rfl) rfl rfl ?_
      refine .cv (VOk.lenL (e := e_api_Field) (xs := a0) rfl Tryd.underlying42 rfl) rfl rfl ?_
      refine .cv (VOk.arith (op := .lss) (k := .i64) (a := x4_2) (b := (a0.length : Int)) rfl rfl rfl rfl) rfl rfl ?_
      refine .cv (VOk.mv (d := (.v (.bool (decide (x4_2 < (a0.length : Int)))))) rfl rfl) rfl rfl ?_
      refine OpsOk.consI rfl rfl rfl (.one rfl) rfl (fun hw6 => (VOk.g (VOk.mv (d := (.v (.int .i64 x3_1))) rfl rfl))) ?_
      refine OpsOk.consI rfl rfl rfl (.one rfl) rfl (fun hw6 => (GOk.fr (fr' := [(13, (.v (.int .i64 x3_1)))]) ⟨DLe.of_eq (cT hw6).symm, trivial⟩ (VOk.g (VOk.arith (op := .lss) (k := .i64) (a := x3_1) (b := 5000) rfl rfl rfl rfl)))) ?_
      refine .cv (VOk.to (VOk.pickI (b := (decide (x4_2 < (a0.length : Int)))) (p := (decide (x3_1 < 5000))) (q := false) rfl rfl (fun hp7 => (cT (t_beq hp7))) (fun hp7 => rfl)) (pickAnd (decide (x4_2 < (a0.length : Int))) (decide (x3_1 < 5000)))) rfl rfl ?_
      exact .done (.rf rfl rfl)
    refine Ok.test (b := ((decide (x4_2 < (a0.length : Int))) && (decide (x3_1 < 5000)))) rfl (fun hb10 => ?_) (fun hb10 => ?_)
    · replace H := ifT H hb10
      refine Ok.skip ?_
      refine Ok.seq ?_
      refine Ok.block ?_
      obtain ⟨c8, H⟩ := assertE H
      obtain ⟨c9, H⟩ := assertE H
      refine Ok.drawE (σ' := ⟨[(0, (L 2 e_api_Field a0)), (3, (.v (.int .i64 (IntKind.i64.wrap ((IntKind.i64.wrap (x3_1 + (if 5000 < (((rd a0 x4_2).Name).length : Int) then 5000 else (((rd a0 x4_2).Name).length : Int)))) + (if 5000 < (((rd a0 x4_2).Value).length : Int) then 5000 else (((rd a0 x4_2).Value).length : Int))))))), (4, (.v (.int .i64 x4_2)))], []⟩) [⟨true, [(3, (.v (.int .i64 x3_1)))], (.v (.int .i64 x3_1))⟩, ⟨true, [(0, (L 2 e_api_Field a0))], (L 2 e_api_Field a0)⟩, ⟨true, [(4, (.v (.int .i64 x4_2)))], (.v (.int .i64 x4_2))⟩, ⟨true, [(19, (L 2 e_api_Field a0)), (20, (.v (.int .i64 x4_2)))], (.fp (e_api_Field (rd a0 x4_2)) 0)⟩, ⟨true, [(21, (.fp (e_api_Field (rd a0 x4_2)) 0))], (.fp (e_api_Field (rd a0 x4_2)) 0)⟩, ⟨true, [(22, (.fp (e_api_Field (rd a0 x4_2)) 0))], (S ((rd a0 x4_2).Name))⟩, ⟨true, [(23, (S ((rd a0 x4_2).Name)))], (.v (.int .i64 (((rd a0 x4_2).Name).length : Int)))⟩, ⟨true, [(24, (.v (.int .i64 (((rd a0 x4_2).Name).length : Int))))], (.v (.int .i64 (if 5000 < (((rd a0 x4_2).Name).length : Int) then 5000 else (((rd a0 x4_2).Name).length : Int))))⟩, ⟨true, [(18, (.v (.int .i64 x3_1))), (25, (.v (.int .i64 (if 5000 < (((rd a0 x4_2).Name).length : Int) then 5000 else (((rd a0 x4_2).Name).length : Int)))))], (.v (.int .i64 (IntKind.i64.wrap (x3_1 + (if 5000 < (((rd a0 x4_2).Name).length : Int) then 5000 else (((rd a0 x4_2).Name).length : Int))))))⟩, ⟨true, [(0, (L 2 e_api_Field a0))], (L 2 e_api_Field a0)⟩, ⟨true, [(4, (.v (.int .i64 x4_2)))], (.v (.int .i64 x4_2))⟩, ⟨true, [(27, (L 2 e_api_Field a0)), (28, (.v (.int .i64 x4_2)))], (.fp (e_api_Field (rd a0 x4_2)) 0)⟩, ⟨true, [(29, (.fp (e_api_Field (rd a0 x4_2)) 0))], (.fp (e_api_Field (rd a0 x4_2)) 1)⟩, ⟨true, [(30, (.fp (e_api_Field (rd a0 x4_2)) 1))], (S ((rd a0 x4_2).Value))⟩, ⟨true, [(31, (S ((rd a0 x4_2).Value)))], (.v (.int .i64 (((rd a0 x4_2).Value).length : Int)))⟩, ⟨true, [(32, (.v (.int .i64 (((rd a0 x4_2).Value).length : Int))))], (.v (.int .i64 (if 5000 < (((rd a0 x4_2).Value).length : Int) then 5000 else (((rd a0 x4_2).Value).length : Int))))⟩, ⟨true, [(26, (.v (.int .i64 (IntKind.i64.wrap (x3_1 + (if 5000 < (((rd a0 x4_2).Name).length : Int) then 5000 else (((rd a0 x4_2).Name).length : Int))))))), (33, (.v (.int .i64 (if 5000 < (((rd a0 x4_2).Value).length : Int) then 5000 else (((rd a0 x4_2).Value).length : Int)))))], (.v (.int .i64 (IntKind.i64.wrap ((IntKind.i64.wrap (x3_1 + (if 5000 < (((rd a0 x4_2).Name).length : Int) then 5000 else (((rd a0 x4_2).Name).length : Int)))) + (if 5000 < (((rd a0 x4_2).Value).length : Int) then 5000 else (((rd a0 x4_2).Value).length : Int))))))⟩, ⟨true, [(34, (.v (.int .i64 (IntKind.i64.wrap ((IntKind.i64.wrap (x3_1 + (if 5000 < (((rd a0 x4_2).Name).length : Int) then 5000 else (((rd a0 x4_2).Name).length : Int)))) + (if 5000 < (((rd a0 x4_2).Value).length : Int) then 5000 else (((rd a0 x4_2).Value).length : Int)))))))], (.v (.int .i64 (IntKind.i64.wrap ((IntKind.i64.wrap (x3_1 + (if 5000 < (((rd a0 x4_2).Name).length : Int) then 5000 else (((rd a0 x4_2).Name).length : Int)))) + (if 5000 < (((rd a0 x4_2).Value).length : Int) then 5000 else (((rd a0 x4_2).Value).length : Int))))))⟩] [[], [], [], [1, 2], [3], [4], [5], [6], [0, 7], [], [], [9, 10], [11], [12], [13], [14], [8, 15], [0, 16]] mixed (by kernel_rfl) ?_ ?_
      · refine TxtE.cons rfl ⟨.same _, trivial⟩ rfl (VOk.g (VOk.mv (d := (.v (.int .i64 x3_1))) rfl rfl)) ?_
        refine TxtE.cons rfl ⟨.same _, trivial⟩ rfl (VOk.g (VOk.mv (d := (L 2 e_api_Field a0)) rfl rfl)) ?_
        refine TxtE.cons rfl ⟨.same _, trivial⟩ rfl (VOk.g (VOk.mv (d := (.v (.int .i64 x4_2))) rfl rfl)) ?_
        refine TxtE.cons rfl ⟨.same _, .same _, trivial⟩ rfl (VOk.g (VOk.indexL (sz := 2) (e := e_api_Field) (xs := a0) (i := x4_2) rfl Tryd.underlying42 sz54 rfl rfl c8)) ?_
        refine TxtE.cons rfl ⟨.same _, trivial⟩ rfl (VOk.g (VOk.to (VOk.fieldFp rfl Tryd.underlying54 rfl sz9 rfl) rfl)) ?_
        refine TxtE.cons rfl ⟨.same _, trivial⟩ rfl (VOk.g (VOk.loadFp (d := (S ((rd a0 x4_2).Name))) rfl Tryd.underlying9 rfl rfl rfl)) ?_
        refine TxtE.cons rfl ⟨.same _, trivial⟩ rfl (VOk.g (VOk.lenStr (s := (rd a0 x4_2).Name) rfl Tryd.underlying9 rfl)) ?_
        refine TxtE.cons rfl ⟨.same _, trivial⟩ rfl (VOk.g (VOk.min2 (a := (((rd a0 x4_2).Name).length : Int)) (b := 5000) rfl rfl rfl)) ?_
        refine TxtE.cons rfl ⟨.same _, .same _, trivial⟩ rfl (VOk.g (VOk.arith (op := .add) (k := .i64) (a := x3_1) (b := (if 5000 < (((rd a0 x4_2).Name).length : Int) then 5000 else (((rd a0 x4_2).Name).length : Int))) rfl rfl rfl rfl)) ?_
        refine TxtE.cons rfl ⟨.same _, trivial⟩ rfl (VOk.g (VOk.mv (d := (L 2 e_api_Field a0)) rfl rfl)) ?_
        refine TxtE.cons rfl ⟨.same _, trivial⟩ rfl (VOk.g (VOk.mv (d := (.v (.int .i64 x4_2))) rfl rfl)) ?_
        refine TxtE.cons rfl ⟨.same _, .same _, trivial⟩ rfl (VOk.g (VOk.indexL (sz := 2) (e := e_api_Field) (xs := a0) (i := x4_2) rfl Tryd.underlying42 sz54 rfl rfl c9)) ?_
        refine TxtE.cons rfl ⟨.same _, trivial⟩ rfl (VOk.g (VOk.to (VOk.fieldFp rfl Tryd.underlying54 rfl sz9 rfl) rfl)) ?_
        refine TxtE.cons rfl ⟨.same _, trivial⟩ rfl (VOk.g (VOk.loadFp (d := (S ((rd a0 x4_2).Value))) rfl Tryd.underlying9 rfl rfl rfl)) ?_
        refine TxtE.cons rfl ⟨.same _, trivial⟩ rfl (VOk.g (VOk.lenStr (s := (rd a0 x4_2).Value) rfl Tryd.underlying9 rfl)) ?_
        refine TxtE.cons rfl ⟨.same _, trivial⟩ rfl (VOk.g (VOk.min2 (a := (((rd a0 x4_2).Value).length : Int)) (b := 5000) rfl rfl rfl)) ?_
        refine TxtE.cons rfl ⟨.same _, .same _, trivial⟩ rfl (VOk.g (VOk.arith (op := .add) (k := .i64) (a := (IntKind.i64.wrap (x3_1 + (if 5000 < (((rd a0 x4_2).Name).length : Int) then 5000 else (((rd a0 x4_2).Name).length : Int))))) (b := (if 5000 < (((rd a0 x4_2).Value).length : Int) then 5000 else (((rd a0 x4_2).Value).length : Int))) rfl rfl rfl rfl)) ?_
        refine TxtE.cons rfl ⟨.same _, trivial⟩ rfl (VOk.g (VOk.asg (d := (.v (.int .i64 (IntKind.i64.wrap ((IntKind.i64.wrap (x3_1 + (if 5000 < (((rd a0 x4_2).Name).length : Int) then 5000 else (((rd a0 x4_2).Name).length : Int)))) + (if 5000 < (((rd a0 x4_2).Value).length : Int) then 5000 else (((rd a0 x4_2).Value).length : Int))))))) rfl rfl)) ?_
        exact .done (.rf rfl rfl)
      refine Ok.region (σ' := ⟨[(0, (L 2 e_api_Field a0)), (3, (.v (.int .i64 (IntKind.i64.wrap ((IntKind.i64.wrap (x3_1 + (if 5000 < (((rd a0 x4_2).Name).length : Int) then 5000 else (((rd a0 x4_2).Name).length : Int)))) + (if 5000 < (((rd a0 x4_2).Value).length : Int) then 5000 else (((rd a0 x4_2).Value).length : Int))))))), (4, (.v (.int .i64 (IntKind.i64.wrap (x4_2 + 1)))))], []⟩) ?_ ?_
      · refine .cv (VOk.mv (d := (.v (.int .i64 x4_2))) rfl rfl) rfl rfl ?_
        refine .cv (VOk.arith (op := .add) (k := .i64) (a := x4_2) (b := 1) rfl rfl rfl rfl) rfl rfl ?_
        refine .cv (VOk.asg (d := (.v (.int .i64 (IntKind.i64.wrap (x4_2 + 1))))) rfl rfl) rfl rfl ?_
        exact .done (.rf rfl rfl)
      exact ⟨m5, Nat.lt_succ_self m5, (IntKind.i64.wrap ((IntKind.i64.wrap (x3_1 + (if 5000 < (((rd a0 x4_2).Name).length : Int) then 5000 else (((rd a0 x4_2).Name).length : Int)))) + (if 5000 < (((rd a0 x4_2).Value).length : Int) then 5000 else (((rd a0 x4_2).Value).length : Int)))), (IntKind.i64.wrap (x4_2 + 1)), rfl, H⟩
    · replace H := ifF H hb10
      refine Ok.exit ?_
      refine Ok.seq ?_
      refine Ok.region (σ' := ⟨[(2, (.v (.bool (decide (x3_1 < 5000)))))], []⟩) ?_ ?_
      · refine .cv (VOk.mv (d := (.v (.int .i64 x3_1))) rfl rfl) rfl rfl ?_
        refine .cv (VOk.arith (op := .lss) (k := .i64) (a := x3_1) (b := 5000) rfl rfl rfl rfl) rfl rfl ?_
        refine .cv (VOk.asg (d := (.v (.bool (decide (x3_1 < 5000))))) rfl rfl) rfl rfl ?_
        exact .done (.rf rfl rfl)
      refine Ok.ret ?_
      obtain rfl := Option.some.inj H
      exact ⟨.inl rfl, ⟨_, (.cons (.tmp rfl) .nil), rfl⟩, trivial⟩

/-! (*strings.Builder).WriteByte: function 61 -/
def strings_Builder_WriteByte (a0 : T_strings_Builder) (a1 : Int) : Option (Unit × T_strings_Builder) := (if (a0.Buf_.length + ([a1] : List Int).length) * 1 ≤ 140737488355328 then some ((), (T_strings_Builder.mk (a0.Buf_ ++ ([a1] : List Int)))) else none)
theorem strings_Builder_WriteByte.ok {a0 : T_strings_Builder} {a1 : Int} {r : Unit × T_strings_Builder} (H : strings_Builder_WriteByte a0 a1 = some r) (b : Nat) : Vx.Fn Tryd.prog 61 [(.bref 0 0), (.v (.int .u8 a1))] [(0, (.box (.bat b 84) [.junk, (.sref 1001)])), (1001, (.rows true 5 1 (a0.Buf_.map (eI .u8))))] (.v .nilIface) [(0, (.box (.bat b 84) [.junk, (.sref 1001)])), (1001, (.rows true 5 1 (r.2.Buf_.map (eI .u8)))), (999, .none)] := by
  unfold strings_Builder_WriteByte at H
  refine Vx.Fn.of_okR Tryd.func61 rfl (Nat.le_of_ble_eq_true rfl) ?_
  refine Ok.seq ?_
  refine Ok.region (σ' := ⟨[(0, (.bref 0 0)), (1, (.v (.int .u8 a1)))], [(0, (.box (.bat b 84) [.junk, (.sref 1001)])), (1001, (.rows true 5 1 (a0.Buf_.map (eI .u8))))]⟩) ?_ ?_
  · refine .cv (VOk.asg (d := (.v .nilIface)) rfl rfl) rfl rfl ?_
    exact .done (.rf rfl rfl)
  refine Ok.seq ?_
  refine Ok.region (σ' := ⟨[(0, (.bref 0 0)), (1, (.v (.int .u8 a1)))], [(0, (.box (.bat b 84) [.junk, (.sref 1001)])), (1001, (.rows true 5 1 (a0.Buf_.map (eI .u8))))]⟩) ?_ ?_
  · refine .cv (VOk.mv (d := (.bref 0 0)) rfl rfl) rfl rfl ?_
    refine OpsOk.cons rfl (OpOk.copyCheck rfl rfl cl66 rfl rfl rfl ccF ccU rfl) ?_
    exact .done (.rf rfl rfl)
  refine Ok.seq ?_
  obtain ⟨c1, H⟩ := assertE H
  refine Ok.region (σ' := ⟨[], [(0, (.box (.bat b 84) [.junk, (.sref 1001)])), (1001, (.rows true 5 1 ((a0.Buf_ ++ ([a1] : List Int)).map (eI .u8))))]⟩) ?_ ?_
  · refine .cv (VOk.mv (d := (.bref 0 0)) rfl rfl) rfl rfl ?_
    refine .cv (VOk.mv (d := (.bref 0 0)) rfl rfl) rfl rfl ?_
    refine .cv (VOk.nilCheckB rfl rfl rfl) rfl rfl ?_
    refine .cv (VOk.to (VOk.fieldB rfl Tryd.underlying84 rfl sz78 rfl rfl) rfl) rfl rfl ?_
    refine .cv (VOk.loadB (d := (.sref 1001)) rfl Tryd.underlying78 rfl rfl rfl rfl) rfl rfl ?_
    refine .cv (VOk.mv (d := (.v (.int .u8 a1))) rfl rfl) rfl rfl ?_
    refine .cg (GOk.to (d' := (L 1 (eI .u8) ([a1] : List Int))) (GOk.lit rfl Tryd.underlying78 sz5 zs5 rfl rfl rfl rfl) rfl) rfl rfl ?_
    refine OpsOk.cons rfl (OpOk.appendL (e := (eI .u8)) (xs := a0.Buf_) (ys := ([a1] : List Int)) rfl Tryd.underlying78 elt5 rfl rfl rfl c1 rfl) ?_
    refine .cv (VOk.nilCheckB rfl rfl rfl) rfl rfl ?_
    refine .cv (VOk.to (VOk.fieldB rfl Tryd.underlying84 rfl sz78 rfl rfl) rfl) rfl rfl ?_
    refine OpsOk.cons rfl (OpOk.to (σ2 := St.put ⟨_, (0, (.box (.bat b 84) [.junk, (.sref 1001)])) :: _⟩ _ .junk) (.storeB rfl sz78 rfl rfl rfl rfl rfl rfl) rfl) ?_
    exact .done (.rf rfl rfl)
  refine Ok.seq ?_
  refine Ok.region (σ' := ⟨[(4, (.v .nilIface))], [(0, (.box (.bat b 84) [.junk, (.sref 1001)])), (1001, (.rows true 5 1 ((a0.Buf_ ++ ([a1] : List Int)).map (eI .u8))))]⟩) ?_ ?_
  · refine .cv (VOk.asg (d := (.v .nilIface)) rfl rfl) rfl rfl ?_
    exact .done (.rf rfl rfl)
  refine Ok.ret ?_
  obtain rfl := Option.some.inj H
  exact ⟨.inl rfl, ⟨_, (.cons (.tmp rfl) .nil), rfl⟩, ⟨.same _, .same _, .none _, trivial⟩⟩

/-! watchbill/field.quote: function 42 -/
def field_quote.l0 (k : Nat) (a0 : Str) : Nat → List Int → Int → Option Str
  | 0, _, _ => none
  | m5 + 1, y1061_2, x9_1 => (if (decide (x9_1 < ((bytesOfStr a0).length : Int))) = true then (if (0 : Int) ≤ x9_1 ∧ x9_1 < ((bytesOfStr a0).length : Int) then (if (((rd (bytesOfStr a0) x9_1) == 34) || ((rd (bytesOfStr a0) x9_1) == 92)) = true then ((strings_Builder_WriteByte (T_strings_Builder.mk y1061_2) 92).bind fun (t9 : Unit × T_strings_Builder) => ((strings_Builder_WriteByte (T_strings_Builder.mk t9.2.Buf_) (rd (bytesOfStr a0) x9_1)).bind fun (t11 : Unit × T_strings_Builder) => field_quote.l0 k a0 m5 t11.2.Buf_ (IntKind.i64.wrap (x9_1 + 1)))) else ((strings_Builder_WriteByte (T_strings_Builder.mk y1061_2) (rd (bytesOfStr a0) x9_1)).bind fun (t13 : Unit × T_strings_Builder) => field_quote.l0 k a0 m5 t13.2.Buf_ (IntKind.i64.wrap (x9_1 + 1)))) else none) else (if u8s y1061_2 = true then (if ([34] : Str).length + (strOfBytes y1061_2).length ≤ 9223372036854775807 then (if (([34] : Str) ++ (strOfBytes y1061_2)).length + ([34] : Str).length ≤ 9223372036854775807 then some ((([34] : Str) ++ (strOfBytes y1061_2)) ++ ([34] : Str)) else none) else none) else none))
def field_quote (k : Nat) (a0 : Str) : Option Str := field_quote.l0 k a0 k ([] : List Int) 0
theorem field_quote.ok {k : Nat} {a0 : Str} {r : Str} (H : field_quote k a0 = some r) : Vx.Fn Tryd.prog 42 [(S a0)] [] (S r) [] := by
  unfold field_quote at H
  refine Vx.Fn.of_okR Tryd.func42 rfl (Nat.le_of_ble_eq_true rfl) ?_
  refine Ok.seq ?_
  refine Ok.region (σ' := ⟨[(0, (S a0))], []⟩) ?_ ?_
  · refine .cv (VOk.asg (d := (S ([] : Str))) rfl rfl) rfl rfl ?_
    exact .done (.rf rfl rfl)
  refine Ok.seq ?_
  refine Ok.region (σ' := ⟨[(0, (S a0)), (3, (.bref 3 0))], [(3, (.box (.bld 84) [.junk, (.sref 1061)])), (1061, (.rows true 5 1 (([] : List Int).map (eI .u8))))]⟩) ?_ ?_
  · refine OpsOk.cons rfl (OpOk.allocBd 3 [none, none] rfl zo84 rfl rfl) ?_
    refine OpsOk.sle (SLe.adopt 3 1061 1 5 1 rfl rfl rfl rfl rfl) ?_
    exact .done (.rf rfl rfl)
  refine Ok.seq ?_
  refine Ok.seq ?_
  refine Ok.region (σ' := ⟨[(3, (.bref 3 0)), (7, (L 1 (eI .u8) (bytesOfStr a0))), (8, (.v (.int .i64 ((bytesOfStr a0).length : Int)))), (9, (.v (.int .i64 0)))], [(3, (.box (.bld 84) [.junk, (.sref 1061)])), (1061, (.rows true 5 1 (([] : List Int).map (eI .u8))))]⟩) ?_ ?_
  · refine .cv (VOk.mv (d := (S a0)) rfl rfl) rfl rfl ?_
    refine .cg (GOk.strBytes (s := a0) rfl Tryd.underlying9 Tryd.underlying78 Tryd.underlying5 rfl) rfl rfl ?_
    refine .cv (VOk.lenL (e := (eI .u8)) (xs := (bytesOfStr a0)) rfl Tryd.underlying78 rfl) rfl rfl ?_
    refine .cv (VOk.mv (d := (.v (.int .i64 0))) rfl rfl) rfl rfl ?_
    exact .done (.rf rfl rfl)
  refine Ok.block ?_
  refine Ok.le (σ' := ⟨[(3, (.bref 3 0)), (7, (L 1 (eI .u8) (bytesOfStr a0))), (8, (.v (.int .i64 ((bytesOfStr a0).length : Int)))), (9, (.v (.int .i64 0)))], [(3, (.box (.bld 84) [.junk, (.sref 1061)])), (1061, (.rows true 5 1 (([] : List Int).map (eI .u8))))]⟩) (.rf rfl rfl) ?_
  refine Ok.loop (fun m5 σ => ∃ (y1061_2 : List Int) (x9_1 : Int), σ = ⟨[(3, (.bref 3 0)), (7, (L 1 (eI .u8) (bytesOfStr a0))), (8, (.v (.int .i64 ((bytesOfStr a0).length : Int)))), (9, (.v (.int .i64 x9_1)))], [(3, (.box (.bld 84) [.junk, (.sref 1061)])), (1061, (.rows true 5 1 (y1061_2.map (eI .u8))))]⟩ ∧ field_quote.l0 k a0 m5 y1061_2 x9_1 = some r) k ⟨([] : List Int), 0, rfl, H⟩ ?_
  rintro m5 σ ⟨y1061_2, x9_1, rfl, H⟩
  cases m5 with
  | zero => exact absurd H (by simp [field_quote.l0])
  | succ m5 =>
    unfold field_quote.l0 at H
    refine Ok.seq ?_
    refine Ok.region (σ' := ⟨[(3, (.bref 3 0)), (7, (L 1 (eI .u8) (bytesOfStr a0))), (8, (.v (.int .i64 ((bytesOfStr a0).length : Int)))), (9, (.v (.int .i64 x9_1))), (10, (.v (.bool (decide (x9_1 < ((bytesOfStr a0).length : Int))))))], [(3, (.box (.bld 84) [.junk, (.sref 1061)])), (1061, (.rows true 5 1 (y1061_2.map (eI .u8))))]⟩) ?_ ?_
    · refine .cv (VOk.arith (op := .lss) (k := .i64) (a := x9_1) (b := ((bytesOfStr a0).length : Int)) rfl rfl rfl rfl) rfl rfl ?_
      exact .done (.rf rfl rfl)
    refine Ok.seq ?_
    refine Ok.test (b := (decide (x9_1 < ((bytesOfStr a0).length : Int)))) rfl (fun hb19 => ?_) (fun hb19 => ?_)
    · replace H := ifT H hb19
      refine Ok.skip ?_
      refine Ok.seq ?_
      refine Ok.block ?_
      refine Ok.seq ?_
      obtain ⟨c6, H⟩ := assertE H
      refine Ok.region (σ' := ⟨[(3, (.bref 3 0)), (5, (.v (.int .u8 (rd (bytesOfStr a0) x9_1)))), (7, (L 1 (eI .u8) (bytesOfStr a0))), (8, (.v (.int .i64 ((bytesOfStr a0).length : Int)))), (9, (.v (.int .i64 x9_1)))], [(3, (.box (.bld 84) [.junk, (.sref 1061)])), (1061, (.rows true 5 1 (y1061_2.map (eI .u8))))]⟩) ?_ ?_
      · refine .cv (VOk.indexL (sz := 1) (e := (eI .u8)) (xs := (bytesOfStr a0)) (i := x9_1) rfl Tryd.underlying78 sz5 rfl rfl c6) rfl rfl ?_
        refine .cv (VOk.loadFp (d := (.v (.int .u8 (rd (bytesOfStr a0) x9_1)))) rfl Tryd.underlying5 rfl rfl rfl) rfl rfl ?_
        refine .cv (VOk.asg (d := (.v (.int .u8 (rd (bytesOfStr a0) x9_1)))) rfl rfl) rfl rfl ?_
        exact .done (.rf rfl rfl)
      refine Ok.seq ?_
      refine Ok.seq ?_
      refine Ok.region (σ' := ⟨[(3, (.bref 3 0)), (5, (.v (.int .u8 (rd (bytesOfStr a0) x9_1)))), (7, (L 1 (eI .u8) (bytesOfStr a0))), (8, (.v (.int .i64 ((bytesOfStr a0).length : Int)))), (9, (.v (.int .i64 x9_1))), (18, (.v (.bool (((rd (bytesOfStr a0) x9_1) == 34) || ((rd (bytesOfStr a0) x9_1) == 92)))))], [(3, (.box (.bld 84) [.junk, (.sref 1061)])), (1061, (.rows true 5 1 (y1061_2.map (eI .u8))))]⟩) ?_ ?_
      · refine .cv (VOk.mv (d := (.v (.int .u8 (rd (bytesOfStr a0) x9_1)))) rfl rfl) rfl rfl ?_
        refine .cv (VOk.arith (op := .eql) (k := .u8) (a := (rd (bytesOfStr a0) x9_1)) (b := 34) rfl rfl rfl rfl) rfl rfl ?_
        refine .cv (VOk.mv (d := (.v (.bool ((rd (bytesOfStr a0) x9_1) == 34)))) rfl rfl) rfl rfl ?_
        refine OpsOk.consI rfl rfl rfl (.one rfl) rfl (fun hw7 => (VOk.g (VOk.mv (d := (.v (.int .u8 (rd (bytesOfStr a0) x9_1)))) rfl rfl))) ?_
        refine OpsOk.consI rfl rfl rfl (.one rfl) rfl (fun hw7 => (GOk.fr (fr' := [(16, (.v (.int .u8 (rd (bytesOfStr a0) x9_1))))]) ⟨DLe.of_eq (cT hw7).symm, trivial⟩ (VOk.g (VOk.arith (op := .eql) (k := .u8) (a := (rd (bytesOfStr a0) x9_1)) (b := 92) rfl rfl rfl rfl)))) ?_
        refine .cv (VOk.to (VOk.pickI (b := ((rd (bytesOfStr a0) x9_1) == 34)) (p := true) (q := ((rd (bytesOfStr a0) x9_1) == 92)) rfl rfl (fun hp8 => rfl) (fun hp8 => (cT (f_beq hp8)))) (pickOr ((rd (bytesOfStr a0) x9_1) == 34) ((rd (bytesOfStr a0) x9_1) == 92))) rfl rfl ?_
        exact .done (.rf rfl rfl)
      refine Ok.test (b := (((rd (bytesOfStr a0) x9_1) == 34) || ((rd (bytesOfStr a0) x9_1) == 92))) rfl (fun hb15 => ?_) (fun hb15 => ?_)
      · replace H := ifT H hb15
        obtain ⟨t9, h10, H⟩ := bindE H
        refine Ok.region (σ' := ⟨[(3, (.bref 3 0)), (5, (.v (.int .u8 (rd (bytesOfStr a0) x9_1)))), (7, (L 1 (eI .u8) (bytesOfStr a0))), (8, (.v (.int .i64 ((bytesOfStr a0).length : Int)))), (9, (.v (.int .i64 x9_1)))], [(3, (.box (.bld 84) [.junk, (.sref 1061)])), (1061, (.rows true 5 1 (t9.2.Buf_.map (eI .u8))))]⟩) ?_ ?_
        · refine OpsOk.cons rfl (OpOk.callT (e := (.bld 84)) 3 1061 919 rfl rfl cl61 (fun b => ((strings_Builder_WriteByte.ok h10) b)) rfl rfl rfl rfl rfl rfl rfl rfl) ?_
          exact .done (.rf rfl rfl)
        obtain ⟨t11, h12, H⟩ := bindE H
        refine Ok.region (σ' := ⟨[(3, (.bref 3 0)), (7, (L 1 (eI .u8) (bytesOfStr a0))), (8, (.v (.int .i64 ((bytesOfStr a0).length : Int)))), (9, (.v (.int .i64 x9_1)))], [(3, (.box (.bld 84) [.junk, (.sref 1061)])), (1061, (.rows true 5 1 (t11.2.Buf_.map (eI .u8))))]⟩) ?_ ?_
        · refine .cv (VOk.mv (d := (.v (.int .u8 (rd (bytesOfStr a0) x9_1)))) rfl rfl) rfl rfl ?_
          refine OpsOk.cons rfl (OpOk.callT (e := (.bld 84)) 3 1061 921 rfl rfl cl61 (fun b => ((strings_Builder_WriteByte.ok h12) b)) rfl rfl rfl rfl rfl rfl rfl rfl) ?_
          exact .done (.rf rfl rfl)
        refine Ok.region (σ' := ⟨[(3, (.bref 3 0)), (7, (L 1 (eI .u8) (bytesOfStr a0))), (8, (.v (.int .i64 ((bytesOfStr a0).length : Int)))), (9, (.v (.int .i64 (IntKind.i64.wrap (x9_1 + 1)))))], [(3, (.box (.bld 84) [.junk, (.sref 1061)])), (1061, (.rows true 5 1 (t11.2.Buf_.map (eI .u8))))]⟩) ?_ ?_
        · refine .cv (VOk.arith (op := .add) (k := .i64) (a := x9_1) (b := 1) rfl rfl rfl rfl) rfl rfl ?_
          refine .cv (VOk.mv (d := (.v (.int .i64 (IntKind.i64.wrap (x9_1 + 1))))) rfl rfl) rfl rfl ?_
          exact .done (.rf rfl rfl)
        exact ⟨m5, Nat.lt_succ_self m5, t11.2.Buf_, (IntKind.i64.wrap (x9_1 + 1)), rfl, H⟩
      · replace H := ifF H hb15
        refine Ok.skip ?_
        obtain ⟨t13, h14, H⟩ := bindE H
        refine Ok.region (σ' := ⟨[(3, (.bref 3 0)), (7, (L 1 (eI .u8) (bytesOfStr a0))), (8, (.v (.int .i64 ((bytesOfStr a0).length : Int)))), (9, (.v (.int .i64 x9_1)))], [(3, (.box (.bld 84) [.junk, (.sref 1061)])), (1061, (.rows true 5 1 (t13.2.Buf_.map (eI .u8))))]⟩) ?_ ?_
        · refine .cv (VOk.mv (d := (.v (.int .u8 (rd (bytesOfStr a0) x9_1)))) rfl rfl) rfl rfl ?_
          refine OpsOk.cons rfl (OpOk.callT (e := (.bld 84)) 3 1061 921 rfl rfl cl61 (fun b => ((strings_Builder_WriteByte.ok h14) b)) rfl rfl rfl rfl rfl rfl rfl rfl) ?_
          exact .done (.rf rfl rfl)
        refine Ok.region (σ' := ⟨[(3, (.bref 3 0)), (7, (L 1 (eI .u8) (bytesOfStr a0))), (8, (.v (.int .i64 ((bytesOfStr a0).length : Int)))), (9, (.v (.int .i64 (IntKind.i64.wrap (x9_1 + 1)))))], [(3, (.box (.bld 84) [.junk, (.sref 1061)])), (1061, (.rows true 5 1 (t13.2.Buf_.map (eI .u8))))]⟩) ?_ ?_
        · refine .cv (VOk.arith (op := .add) (k := .i64) (a := x9_1) (b := 1) rfl rfl rfl rfl) rfl rfl ?_
          refine .cv (VOk.mv (d := (.v (.int .i64 (IntKind.i64.wrap (x9_1 + 1))))) rfl rfl) rfl rfl ?_
          exact .done (.rf rfl rfl)
        exact ⟨m5, Nat.lt_succ_self m5, t13.2.Buf_, (IntKind.i64.wrap (x9_1 + 1)), rfl, H⟩
    · replace H := ifF H hb19
      refine Ok.exit ?_
      refine Ok.seq ?_
      obtain ⟨c16, H⟩ := assertE H
      obtain ⟨c17, H⟩ := assertE H
      obtain ⟨c18, H⟩ := assertE H
      refine Ok.region (σ' := ⟨[(2, (S ((([34] : Str) ++ (strOfBytes y1061_2)) ++ ([34] : Str))))], []⟩) ?_ ?_
      · refine OpsOk.cons rfl (OpOk.callStr (xs := y1061_2) rfl rfl cl55 rfl rfl rfl rfl rfl c16 bdS rfl) ?_
        refine .cv (VOk.cat (a := ([34] : Str)) (b := (strOfBytes y1061_2)) rfl rfl rfl c17) rfl rfl ?_
        refine .cv (VOk.cat (a := (([34] : Str) ++ (strOfBytes y1061_2))) (b := ([34] : Str)) rfl rfl rfl c18) rfl rfl ?_
        refine .cv (VOk.asg (d := (S ((([34] : Str) ++ (strOfBytes y1061_2)) ++ ([34] : Str)))) rfl rfl) rfl rfl ?_
        exact .done (.rf rfl rfl)
      refine Ok.ret ?_
      obtain rfl := Option.some.inj H
      exact ⟨.inl rfl, ⟨_, (.cons (.tmp rfl) .nil), rfl⟩, trivial⟩

/-! watchbill/field.PrintType: function 19 -/
def field_PrintType.j1 (c0 : Int → Str → Option (Str × Int)) (a1 : List T_api_Field) (x34_11 : Int) (x9_10 : Str) (x12_16 : Str) : Option (Str × Int) := (if ([59, 32] : Str).length + ((rd a1 x34_11).Name).length ≤ 9223372036854775807 then (if (([59, 32] : Str) ++ ((rd a1 x34_11).Name)).length + ([61] : Str).length ≤ 9223372036854775807 then (if ((([59, 32] : Str) ++ ((rd a1 x34_11).Name)) ++ ([61] : Str)).length + x12_16.length ≤ 9223372036854775807 then (if x9_10.length + (((([59, 32] : Str) ++ ((rd a1 x34_11).Name)) ++ ([61] : Str)) ++ x12_16).length ≤ 9223372036854775807 then c0 (IntKind.i64.wrap (x34_11 + 1)) (x9_10 ++ (((([59, 32] : Str) ++ ((rd a1 x34_11).Name)) ++ ([61] : Str)) ++ x12_16)) else none) else none) else none) else none)
def field_PrintType.l0 (k : Nat) (a1 : List T_api_Field) : Nat → Int → Str → Option (Str × Int)
  | 0, _, _ => none
  | m14 + 1, x34_11, x9_10 => (if (decide (x34_11 < (a1.length : Int))) = true then (if (0 : Int) ≤ x34_11 ∧ x34_11 < (a1.length : Int) then ((field_Token k ((rd a1 x34_11).Name)).bind fun (t21 : Bool) => (if (!t21) = true then some (([] : Str), 12) else (((if ((!(((rd a1 x34_11).Value) == ([] : Str))) == true) = true then field_all_2 k ((rd a1 x34_11).Value) else some default)).bind fun (t24 : Bool) => (if ((!(((rd a1 x34_11).Value) == ([] : Str))) && (!t24)) = true then some (([] : Str), 4) else ((field_Token k ((rd a1 x34_11).Value)).bind fun (t27 : Bool) => (if (!t27) = true then ((field_quote k ((rd a1 x34_11).Value)).bind fun (t29 : Str) => field_PrintType.j1 (field_PrintType.l0 k a1 m14) a1 x34_11 x9_10 t29) else field_PrintType.j1 (field_PrintType.l0 k a1 m14) a1 x34_11 x9_10 ((rd a1 x34_11).Value))))))) else none) else some (x9_10, 0))
def field_PrintType (k : Nat) (a0 : Str) (a1 : List T_api_Field) : Option (Str × Int) := (if a0.length < 4294967281 then (((if ((!((Lib.cut a0 ([47] : Str)).2.2)) == false) = true then field_Token k ((Lib.cut a0 ([47] : Str)).1) else some default)).bind fun (t3 : Bool) => (((if (((!((Lib.cut a0 ([47] : Str)).2.2)) || (!t3)) == false) = true then field_Token k ((Lib.cut a0 ([47] : Str)).2.1) else some default)).bind fun (t7 : Bool) => (if (((!((Lib.cut a0 ([47] : Str)).2.2)) || (!t3)) || (!t7)) = true then some (([] : Str), 31) else field_PrintType.l0 k a1 k 0 a0))) else none)
theorem field_PrintType.ok {k : Nat} {a0 : Str} {a1 : List T_api_Field} {r : Str × Int} (H : field_PrintType k a0 a1 = some r) : Vx.Fn Tryd.prog 19 [(S a0), (L 2 e_api_Field a1)] [] (.tup [(S r.1), (.v (.int .i64 r.2))]) [] := by
  unfold field_PrintType at H
  refine Vx.Fn.of_okR Tryd.func19 rfl (Nat.le_of_ble_eq_true rfl) ?_
  refine Ok.seq ?_
  refine Ok.region (σ' := ⟨[(0, (S a0)), (1, (L 2 e_api_Field a1))], []⟩) ?_ ?_
  · refine .cv (VOk.asg (d := (S ([] : Str))) rfl rfl) rfl rfl ?_
    refine .cv (VOk.asg (d := (.v (.int .i64 0))) rfl rfl) rfl rfl ?_
    exact .done (.rf rfl rfl)
  refine Ok.seq ?_
  refine Ok.seq ?_
  obtain ⟨c1, H⟩ := assertE H
  refine Ok.region (σ' := ⟨[(0, (S a0)), (1, (L 2 e_api_Field a1)), (6, (S ((Lib.cut a0 ([47] : Str)).1))), (7, (S ((Lib.cut a0 ([47] : Str)).2.1))), (8, (.v (.bool ((Lib.cut a0 ([47] : Str)).2.2))))], []⟩) ?_ ?_
  · refine .cv (VOk.mv (d := (S a0)) rfl rfl) rfl rfl ?_
    refine .cg (GOk.extB (us := [.string (ba a0), .string (ba ([47] : Str))]) (d := (.tup [(S ((Lib.cut a0 ([47] : Str)).1)), (S ((Lib.cut a0 ([47] : Str)).2.1)), (.v (.bool ((Lib.cut a0 ([47] : Str)).2.2)))])) rfl rfl cl40 rfl (fun _ _ => cut_pu _ _ _) (fun w hG => shCut c1 w hG)) rfl rfl ?_
    refine .cv (VOk.mv (d := (.tup [(S ((Lib.cut a0 ([47] : Str)).1)), (S ((Lib.cut a0 ([47] : Str)).2.1)), (.v (.bool ((Lib.cut a0 ([47] : Str)).2.2)))])) rfl rfl) rfl rfl ?_
    refine .cv (VOk.extract (d := (S ((Lib.cut a0 ([47] : Str)).1))) rfl rfl rfl) rfl rfl ?_
    refine .cv (VOk.extract (d := (S ((Lib.cut a0 ([47] : Str)).2.1))) rfl rfl rfl) rfl rfl ?_
    refine .cv (VOk.extract (d := (.v (.bool ((Lib.cut a0 ([47] : Str)).2.2)))) rfl rfl rfl) rfl rfl ?_
    refine .cv (VOk.asg (d := (S ((Lib.cut a0 ([47] : Str)).1))) rfl rfl) rfl rfl ?_
    refine .cv (VOk.asg (d := (S ((Lib.cut a0 ([47] : Str)).2.1))) rfl rfl) rfl rfl ?_
    refine .cv (VOk.asg (d := (.v (.bool ((Lib.cut a0 ([47] : Str)).2.2)))) rfl rfl) rfl rfl ?_
    exact .done (.rf rfl rfl)
  refine Ok.seq ?_
  obtain ⟨t3, h4, H⟩ := bindE H
  obtain ⟨t7, h8, H⟩ := bindE H
  refine Ok.region (σ' := ⟨[(0, (S a0)), (1, (L 2 e_api_Field a1)), (30, (.v (.bool (((!((Lib.cut a0 ([47] : Str)).2.2)) || (!t3)) || (!t7)))))], []⟩) ?_ ?_
  · refine .cv (VOk.mv (d := (.v (.bool ((Lib.cut a0 ([47] : Str)).2.2)))) rfl rfl) rfl rfl ?_
    refine .cv (VOk.not (b := (Lib.cut a0 ([47] : Str)).2.2) rfl rfl) rfl rfl ?_
    refine .cv (VOk.mv (d := (.v (.bool (!((Lib.cut a0 ([47] : Str)).2.2))))) rfl rfl) rfl rfl ?_
    refine OpsOk.consI rfl rfl rfl (.one rfl) rfl (fun hw2 => (VOk.g (VOk.mv (d := (S ((Lib.cut a0 ([47] : Str)).1))) rfl rfl))) ?_
    refine OpsOk.consI rfl rfl rfl (.one rfl) rfl (fun hw2 => (GOk.fr (fr' := [(22, (S ((Lib.cut a0 ([47] : Str)).1)))]) ⟨DLe.of_eq (cT hw2).symm, trivial⟩ (GOk.call rfl rfl cl16 rfl (field_Token.ok (ifT h4 hw2)) rfl))) ?_
    refine OpsOk.consI rfl rfl rfl (.one rfl) rfl (fun hw2 => (GOk.fr (fr' := [(23, (.v (.bool t3)))]) ⟨DLe.of_eq (cT hw2).symm, trivial⟩ (VOk.g (VOk.not (b := t3) rfl rfl)))) ?_
    refine .cv (VOk.to (VOk.pickI (b := (!((Lib.cut a0 ([47] : Str)).2.2))) (p := true) (q := (!t3)) rfl rfl (fun hp5 => rfl) (fun hp5 => (cT (f_beq hp5)))) (pickOr (!((Lib.cut a0 ([47] : Str)).2.2)) (!t3))) rfl rfl ?_
    refine .cv (VOk.mv (d := (.v (.bool ((!((Lib.cut a0 ([47] : Str)).2.2)) || (!t3))))) rfl rfl) rfl rfl ?_
    refine OpsOk.consI rfl rfl rfl (.one rfl) rfl (fun hw6 => (VOk.g (VOk.mv (d := (S ((Lib.cut a0 ([47] : Str)).2.1))) rfl rfl))) ?_
    refine OpsOk.consI rfl rfl rfl (.one rfl) rfl (fun hw6 => (GOk.fr (fr' := [(27, (S ((Lib.cut a0 ([47] : Str)).2.1)))]) ⟨DLe.of_eq (cT hw6).symm, trivial⟩ (GOk.call rfl rfl cl16 rfl (field_Token.ok (ifT h8 hw6)) rfl))) ?_
    refine OpsOk.consI rfl rfl rfl (.one rfl) rfl (fun hw6 => (GOk.fr (fr' := [(28, (.v (.bool t7)))]) ⟨DLe.of_eq (cT hw6).symm, trivial⟩ (VOk.g (VOk.not (b := t7) rfl rfl)))) ?_
    refine .cv (VOk.to (VOk.pickI (b := ((!((Lib.cut a0 ([47] : Str)).2.2)) || (!t3))) (p := true) (q := (!t7)) rfl rfl (fun hp9 => rfl) (fun hp9 => (cT (f_beq hp9)))) (pickOr ((!((Lib.cut a0 ([47] : Str)).2.2)) || (!t3)) (!t7))) rfl rfl ?_
    exact .done (.rf rfl rfl)
  refine Ok.test (b := (((!((Lib.cut a0 ([47] : Str)).2.2)) || (!t3)) || (!t7))) rfl (fun hb35 => ?_) (fun hb35 => ?_)
  · replace H := ifT H hb35
    refine Ok.seq ?_
    refine Ok.region (σ' := ⟨[(4, (S ([] : Str))), (5, (.v (.int .i64 31)))], []⟩) ?_ ?_
    · refine .cv (VOk.asg (d := (S ([] : Str))) rfl rfl) rfl rfl ?_
      refine .cv (VOk.asg (d := (.v (.int .i64 31))) rfl rfl) rfl rfl ?_
      exact .done (.rf rfl rfl)
    refine Ok.ret ?_
    obtain rfl := Option.some.inj H
    exact ⟨.inl rfl, ⟨_, (.cons (.tmp rfl) (.cons (.tmp rfl) .nil)), rfl⟩, trivial⟩
  · replace H := ifF H hb35
    refine Ok.skip ?_
    refine Ok.seq ?_
    refine Ok.region (σ' := ⟨[(1, (L 2 e_api_Field a1)), (9, (S a0))], []⟩) ?_ ?_
    · refine .cv (VOk.mv (d := (S a0)) rfl rfl) rfl rfl ?_
      refine .cv (VOk.asg (d := (S a0)) rfl rfl) rfl rfl ?_
      exact .done (.rf rfl rfl)
    refine Ok.seq ?_
    refine Ok.seq ?_
    refine Ok.region (σ' := ⟨[(9, (S a0)), (32, (L 2 e_api_Field a1)), (33, (.v (.int .i64 (a1.length : Int)))), (34, (.v (.int .i64 0)))], []⟩) ?_ ?_
    · refine .cv (VOk.mv (d := (L 2 e_api_Field a1)) rfl rfl) rfl rfl ?_
      refine .cv (VOk.lenL (e := e_api_Field) (xs := a1) rfl Tryd.underlying42 rfl) rfl rfl ?_
      refine .cv (VOk.mv (d := (.v (.int .i64 0))) rfl rfl) rfl rfl ?_
      exact .done (.rf rfl rfl)
    refine Ok.block ?_
    refine Ok.le (σ' := ⟨[(9, (S a0)), (32, (L 2 e_api_Field a1)), (33, (.v (.int .i64 (a1.length : Int)))), (34, (.v (.int .i64 0)))], []⟩) (.rf rfl rfl) ?_
    refine Ok.loop (fun m14 σ => ∃ (x34_11 : Int) (x9_10 : Str), σ = ⟨[(9, (S x9_10)), (32, (L 2 e_api_Field a1)), (33, (.v (.int .i64 (a1.length : Int)))), (34, (.v (.int .i64 x34_11)))], []⟩ ∧ field_PrintType.l0 k a1 m14 x34_11 x9_10 = some r) k ⟨0, a0, rfl, H⟩ ?_
    rintro m14 σ ⟨x34_11, x9_10, rfl, H⟩
    cases m14 with
    | zero => exact absurd H (by simp [field_PrintType.l0])
    | succ m14 =>
      unfold field_PrintType.l0 at H
      refine Ok.seq ?_
      refine Ok.region (σ' := ⟨[(9, (S x9_10)), (32, (L 2 e_api_Field a1)), (33, (.v (.int .i64 (a1.length : Int)))), (34, (.v (.int .i64 x34_11))), (35, (.v (.bool (decide (x34_11 < (a1.length : Int))))))], []⟩) ?_ ?_
      · refine .cv (VOk.arith (op := .lss) (k := .i64) (a := x34_11) (b := (a1.length : Int)) rfl rfl rfl rfl) rfl rfl ?_
        exact .done (.rf rfl rfl)
      refine Ok.seq ?_
      refine Ok.test (b := (decide (x34_11 < (a1.length : Int)))) rfl (fun hb34 => ?_) (fun hb34 => ?_)
      · replace H := ifT H hb34
        refine Ok.skip ?_
        refine Ok.seq ?_
        refine Ok.block ?_
        refine Ok.seq ?_
        obtain ⟨c15, H⟩ := assertE H
        refine Ok.region (σ' := ⟨[(9, (S x9_10)), (11, (.bref 11 0)), (32, (L 2 e_api_Field a1)), (33, (.v (.int .i64 (a1.length : Int)))), (34, (.v (.int .i64 x34_11)))], [(11, (.box .ex [(S ((rd a1 x34_11).Name)), (S ((rd a1 x34_11).Value))]))]⟩) ?_ ?_
        · refine .cv (VOk.indexL (sz := 2) (e := e_api_Field) (xs := a1) (i := x34_11) rfl Tryd.underlying42 sz54 rfl rfl c15) rfl rfl ?_
          refine .cv (VOk.to (d' := (.agg (e_api_Field (rd a1 x34_11)))) (.loadFpAgg rfl Tryd.underlying54 rfl sz54 rfl rfl) rfl) rfl rfl ?_
          refine OpsOk.cons rfl (OpOk.alloc 11 [none, none] rfl zo54 rfl rfl) ?_
          refine OpsOk.cons rfl (OpOk.to (σ2 := St.put ⟨_, (11, (.box .ex [(S ((rd a1 x34_11).Name)), (S ((rd a1 x34_11).Value))])) :: _⟩ _ .junk) (.storeB rfl sz54 rfl rfl rfl rfl rfl rfl) rfl) ?_
          exact .done (.rf rfl rfl)
        refine Ok.seq ?_
        refine Ok.region (σ' := ⟨[(9, (S x9_10)), (11, (.bref 11 0)), (12, (S ((rd a1 x34_11).Value))), (32, (L 2 e_api_Field a1)), (33, (.v (.int .i64 (a1.length : Int)))), (34, (.v (.int .i64 x34_11)))], [(11, (.box .ex [(S ((rd a1 x34_11).Name)), (S ((rd a1 x34_11).Value))]))]⟩) ?_ ?_
        · refine .cv (VOk.to (VOk.fieldB rfl Tryd.underlying54 rfl sz9 rfl rfl) rfl) rfl rfl ?_
          refine .cv (VOk.loadB (d := (S ((rd a1 x34_11).Value))) rfl Tryd.underlying9 rfl rfl rfl rfl) rfl rfl ?_
          refine .cv (VOk.asg (d := (S ((rd a1 x34_11).Value))) rfl rfl) rfl rfl ?_
          exact .done (.rf rfl rfl)
        refine Ok.meet (fun σ => ∃ (x12_16 : Str), σ = ⟨[(9, (S x9_10)), (11, (.bref 11 0)), (12, (S x12_16)), (32, (L 2 e_api_Field a1)), (33, (.v (.int .i64 (a1.length : Int)))), (34, (.v (.int .i64 x34_11)))], [(11, (.box .ex [(S ((rd a1 x34_11).Name)), (S ((rd a1 x34_11).Value))]))]⟩ ∧ field_PrintType.j1 (field_PrintType.l0 k a1 m14) a1 x34_11 x9_10 x12_16 = some r) ?_ ?_
        · refine Ok.block ?_
          refine Ok.seq ?_
          obtain ⟨t21, h22, H⟩ := bindE H
          refine Ok.region (σ' := ⟨[(9, (S x9_10)), (11, (.bref 11 0)), (12, (S ((rd a1 x34_11).Value))), (32, (L 2 e_api_Field a1)), (33, (.v (.int .i64 (a1.length : Int)))), (34, (.v (.int .i64 x34_11))), (40, (.v (.bool (!t21))))], [(11, (.box .ex [(S ((rd a1 x34_11).Name)), (S ((rd a1 x34_11).Value))]))]⟩) ?_ ?_
          · refine .cv (VOk.to (VOk.fieldB rfl Tryd.underlying54 rfl sz9 rfl rfl) rfl) rfl rfl ?_
            refine .cv (VOk.loadB (d := (S ((rd a1 x34_11).Name))) rfl Tryd.underlying9 rfl rfl rfl rfl) rfl rfl ?_
            refine .cg (GOk.call rfl rfl cl16 rfl (field_Token.ok h22) rfl) rfl rfl ?_
            refine .cv (VOk.not (b := t21) rfl rfl) rfl rfl ?_
            refine .cv (VOk.asg (d := (.v (.bool (!t21)))) rfl rfl) rfl rfl ?_
            exact .done (.rf rfl rfl)
          refine Ok.test (b := (!t21)) rfl (fun hb33 => ?_) (fun hb33 => ?_)
          · replace H := ifT H hb33
            refine Ok.seq ?_
            refine Ok.region (σ' := ⟨[(4, (S ([] : Str))), (5, (.v (.int .i64 12)))], []⟩) ?_ ?_
            · refine .cv (VOk.asg (d := (S ([] : Str))) rfl rfl) rfl rfl ?_
              refine .cv (VOk.asg (d := (.v (.int .i64 12))) rfl rfl) rfl rfl ?_
              exact .done (.rf rfl rfl)
            refine Ok.ret ?_
            obtain rfl := Option.some.inj H
            exact ⟨.inl rfl, ⟨_, (.cons (.tmp rfl) (.cons (.tmp rfl) .nil)), rfl⟩, trivial⟩
          · replace H := ifF H hb33
            refine Ok.seq ?_
            obtain ⟨t24, h25, H⟩ := bindE H
            refine Ok.region (σ' := ⟨[(9, (S x9_10)), (11, (.bref 11 0)), (12, (S ((rd a1 x34_11).Value))), (32, (L 2 e_api_Field a1)), (33, (.v (.int .i64 (a1.length : Int)))), (34, (.v (.int .i64 x34_11))), (45, (.v (.bool ((!(((rd a1 x34_11).Value) == ([] : Str))) && (!t24)))))], [(11, (.box .ex [(S ((rd a1 x34_11).Name)), (S ((rd a1 x34_11).Value))]))]⟩) ?_ ?_
            · refine .cv (VOk.mv (d := (S ((rd a1 x34_11).Value))) rfl rfl) rfl rfl ?_
              refine .cv (VOk.strOp (op := .neq) (a := (rd a1 x34_11).Value) (b := ([] : Str)) rfl rfl rfl rfl) rfl rfl ?_
              refine .cv (VOk.mv (d := (.v (.bool (!(((rd a1 x34_11).Value) == ([] : Str)))))) rfl rfl) rfl rfl ?_
              refine OpsOk.consI rfl rfl rfl (.one rfl) rfl (fun hw23 => (VOk.g (VOk.mv (d := (S ((rd a1 x34_11).Value))) rfl rfl))) ?_
              refine OpsOk.consI rfl rfl rfl (.one rfl) rfl (fun hw23 => (GOk.fr (fr' := [(49, (S ((rd a1 x34_11).Value)))]) ⟨DLe.of_eq (cT hw23).symm, trivial⟩ (GOk.call rfl rfl cl35 rfl (field_all_2.ok (ifT h25 hw23)) rfl))) ?_
              refine OpsOk.consI rfl rfl rfl (.one rfl) rfl (fun hw23 => (GOk.fr (fr' := [(50, (.v (.bool t24)))]) ⟨DLe.of_eq (cT hw23).symm, trivial⟩ (VOk.g (VOk.not (b := t24) rfl rfl)))) ?_
              refine .cv (VOk.to (VOk.pickI (b := (!(((rd a1 x34_11).Value) == ([] : Str)))) (p := (!t24)) (q := false) rfl rfl (fun hp26 => (cT (t_beq hp26))) (fun hp26 => rfl)) (pickAnd (!(((rd a1 x34_11).Value) == ([] : Str))) (!t24))) rfl rfl ?_
              refine .cv (VOk.asg (d := (.v (.bool ((!(((rd a1 x34_11).Value) == ([] : Str))) && (!t24))))) rfl rfl) rfl rfl ?_
              exact .done (.rf rfl rfl)
            refine Ok.test (b := ((!(((rd a1 x34_11).Value) == ([] : Str))) && (!t24))) rfl (fun hb32 => ?_) (fun hb32 => ?_)
            · replace H := ifT H hb32
              refine Ok.seq ?_
              refine Ok.region (σ' := ⟨[(4, (S ([] : Str))), (5, (.v (.int .i64 4)))], []⟩) ?_ ?_
              · refine .cv (VOk.asg (d := (S ([] : Str))) rfl rfl) rfl rfl ?_
                refine .cv (VOk.asg (d := (.v (.int .i64 4))) rfl rfl) rfl rfl ?_
                exact .done (.rf rfl rfl)
              refine Ok.ret ?_
              obtain rfl := Option.some.inj H
              exact ⟨.inl rfl, ⟨_, (.cons (.tmp rfl) (.cons (.tmp rfl) .nil)), rfl⟩, trivial⟩
            · replace H := ifF H hb32
              refine Ok.seq ?_
              obtain ⟨t27, h28, H⟩ := bindE H
              refine Ok.region (σ' := ⟨[(9, (S x9_10)), (11, (.bref 11 0)), (12, (S ((rd a1 x34_11).Value))), (32, (L 2 e_api_Field a1)), (33, (.v (.int .i64 (a1.length : Int)))), (34, (.v (.int .i64 x34_11))), (53, (.v (.bool (!t27))))], [(11, (.box .ex [(S ((rd a1 x34_11).Name)), (S ((rd a1 x34_11).Value))]))]⟩) ?_ ?_
              · refine .cv (VOk.mv (d := (S ((rd a1 x34_11).Value))) rfl rfl) rfl rfl ?_
                refine .cg (GOk.call rfl rfl cl16 rfl (field_Token.ok h28) rfl) rfl rfl ?_
                refine .cv (VOk.not (b := t27) rfl rfl) rfl rfl ?_
                refine .cv (VOk.asg (d := (.v (.bool (!t27)))) rfl rfl) rfl rfl ?_
                exact .done (.rf rfl rfl)
              refine Ok.test (b := (!t27)) rfl (fun hb31 => ?_) (fun hb31 => ?_)
              · replace H := ifT H hb31
                obtain ⟨t29, h30, H⟩ := bindE H
                refine Ok.region (σ' := ⟨[(9, (S x9_10)), (11, (.bref 11 0)), (12, (S t29)), (32, (L 2 e_api_Field a1)), (33, (.v (.int .i64 (a1.length : Int)))), (34, (.v (.int .i64 x34_11)))], [(11, (.box .ex [(S ((rd a1 x34_11).Name)), (S ((rd a1 x34_11).Value))]))]⟩) ?_ ?_
                · refine .cv (VOk.mv (d := (S ((rd a1 x34_11).Value))) rfl rfl) rfl rfl ?_
                  refine .cg (GOk.call rfl rfl cl42 rfl (field_quote.ok h30) rfl) rfl rfl ?_
                  refine .cv (VOk.asg (d := (S t29)) rfl rfl) rfl rfl ?_
                  exact .done (.rf rfl rfl)
                exact ⟨t29, rfl, H⟩
              · replace H := ifF H hb31
                refine Ok.le (σ' := ⟨[(9, (S x9_10)), (11, (.bref 11 0)), (12, (S ((rd a1 x34_11).Value))), (32, (L 2 e_api_Field a1)), (33, (.v (.int .i64 (a1.length : Int)))), (34, (.v (.int .i64 x34_11)))], [(11, (.box .ex [(S ((rd a1 x34_11).Name)), (S ((rd a1 x34_11).Value))]))]⟩) (.rf rfl rfl) ?_
                refine Ok.skip ?_
                exact ⟨((rd a1 x34_11).Value), rfl, H⟩
        · rintro σ ⟨x12_16, rfl, H⟩
          unfold field_PrintType.j1 at H
          obtain ⟨c17, H⟩ := assertE H
          obtain ⟨c18, H⟩ := assertE H
          obtain ⟨c19, H⟩ := assertE H
          obtain ⟨c20, H⟩ := assertE H
          refine Ok.region (σ' := ⟨[(9, (S (x9_10 ++ (((([59, 32] : Str) ++ ((rd a1 x34_11).Name)) ++ ([61] : Str)) ++ x12_16)))), (32, (L 2 e_api_Field a1)), (33, (.v (.int .i64 (a1.length : Int)))), (34, (.v (.int .i64 x34_11)))], []⟩) ?_ ?_
          · refine .cv (VOk.mv (d := (S x9_10)) rfl rfl) rfl rfl ?_
            refine .cv (VOk.to (VOk.fieldB rfl Tryd.underlying54 rfl sz9 rfl rfl) rfl) rfl rfl ?_
            refine .cv (VOk.loadB (d := (S ((rd a1 x34_11).Name))) rfl Tryd.underlying9 rfl rfl rfl rfl) rfl rfl ?_
            refine .cv (VOk.cat (a := ([59, 32] : Str)) (b := (rd a1 x34_11).Name) rfl rfl rfl c17) rfl rfl ?_
            refine .cv (VOk.cat (a := (([59, 32] : Str) ++ ((rd a1 x34_11).Name))) (b := ([61] : Str)) rfl rfl rfl c18) rfl rfl ?_
            refine .cv (VOk.mv (d := (S x12_16)) rfl rfl) rfl rfl ?_
            refine .cv (VOk.cat (a := ((([59, 32] : Str) ++ ((rd a1 x34_11).Name)) ++ ([61] : Str))) (b := x12_16) rfl rfl rfl c19) rfl rfl ?_
            refine .cv (VOk.cat (a := x9_10) (b := (((([59, 32] : Str) ++ ((rd a1 x34_11).Name)) ++ ([61] : Str)) ++ x12_16)) rfl rfl rfl c20) rfl rfl ?_
            refine .cv (VOk.asg (d := (S (x9_10 ++ (((([59, 32] : Str) ++ ((rd a1 x34_11).Name)) ++ ([61] : Str)) ++ x12_16)))) rfl rfl) rfl rfl ?_
            exact .done (.rf rfl rfl)
          refine Ok.region (σ' := ⟨[(9, (S (x9_10 ++ (((([59, 32] : Str) ++ ((rd a1 x34_11).Name)) ++ ([61] : Str)) ++ x12_16)))), (32, (L 2 e_api_Field a1)), (33, (.v (.int .i64 (a1.length : Int)))), (34, (.v (.int .i64 (IntKind.i64.wrap (x34_11 + 1)))))], []⟩) ?_ ?_
          · refine .cv (VOk.arith (op := .add) (k := .i64) (a := x34_11) (b := 1) rfl rfl rfl rfl) rfl rfl ?_
            refine .cv (VOk.mv (d := (.v (.int .i64 (IntKind.i64.wrap (x34_11 + 1))))) rfl rfl) rfl rfl ?_
            exact .done (.rf rfl rfl)
          exact ⟨m14, Nat.lt_succ_self m14, (IntKind.i64.wrap (x34_11 + 1)), (x9_10 ++ (((([59, 32] : Str) ++ ((rd a1 x34_11).Name)) ++ ([61] : Str)) ++ x12_16)), rfl, H⟩
      · replace H := ifF H hb34
        refine Ok.exit ?_
        refine Ok.seq ?_
        refine Ok.region (σ' := ⟨[(4, (S x9_10)), (5, (.v (.int .i64 0)))], []⟩) ?_ ?_
        · refine .cv (VOk.mv (d := (S x9_10)) rfl rfl) rfl rfl ?_
          refine .cv (VOk.asg (d := (S x9_10)) rfl rfl) rfl rfl ?_
          refine .cv (VOk.asg (d := (.v (.int .i64 0))) rfl rfl) rfl rfl ?_
          exact .done (.rf rfl rfl)
        refine Ok.ret ?_
        obtain rfl := Option.some.inj H
        exact ⟨.inl rfl, ⟨_, (.cons (.tmp rfl) (.cons (.tmp rfl) .nil)), rfl⟩, trivial⟩

/-! watchbill/watchbillref07.tokenByte: function 39 -/
def watchbillref07_tokenByte.l0 (k : Nat) (a0 : Int) : Nat → Int → Option Bool
  | 0, _ => none
  | m3 + 1, x3_1 => (if (decide (x3_1 < 15)) = true then (if (0 : Int) ≤ x3_1 ∧ x3_1 < (([40, 41, 60, 62, 64, 44, 59, 58, 92, 34, 47, 91, 93, 63, 61] : Str).length : Int) then (if ((bt ([40, 41, 60, 62, 64, 44, 59, 58, 92, 34, 47, 91, 93, 63, 61] : Str) x3_1) == a0) = true then some false else watchbillref07_tokenByte.l0 k a0 m3 (IntKind.i64.wrap (x3_1 + 1))) else none) else some ((decide (a0 ≥ 33)) && (decide (a0 ≤ 126))))
def watchbillref07_tokenByte (k : Nat) (a0 : Int) : Option Bool := watchbillref07_tokenByte.l0 k a0 k 0
theorem watchbillref07_tokenByte.ok {k : Nat} {a0 : Int} {r : Bool} (H : watchbillref07_tokenByte k a0 = some r) : Vx.Fn Tryd.prog 39 [(.v (.int .u8 a0))] [] (.v (.bool r)) [] := by
  unfold watchbillref07_tokenByte at H
  refine Vx.Fn.of_okR Tryd.func39 rfl (Nat.le_of_ble_eq_true rfl) ?_
  refine Ok.seq ?_
  refine Ok.region (σ' := ⟨[(0, (.v (.int .u8 a0)))], []⟩) ?_ ?_
  · refine .cv (VOk.asg (d := (.v (.bool false))) rfl rfl) rfl rfl ?_
    exact .done (.rf rfl rfl)
  refine Ok.seq ?_
  refine Ok.seq ?_
  refine Ok.region (σ' := ⟨[(0, (.v (.int .u8 a0))), (3, (.v (.int .i64 0)))], []⟩) ?_ ?_
  · refine .cv (VOk.asg (d := (.v (.int .i64 0))) rfl rfl) rfl rfl ?_
    exact .done (.rf rfl rfl)
  refine Ok.block ?_
  refine Ok.le (σ' := ⟨[(0, (.v (.int .u8 a0))), (3, (.v (.int .i64 0)))], []⟩) (.rf rfl rfl) ?_
  refine Ok.loop (fun m3 σ => ∃ (x3_1 : Int), σ = ⟨[(0, (.v (.int .u8 a0))), (3, (.v (.int .i64 x3_1)))], []⟩ ∧ watchbillref07_tokenByte.l0 k a0 m3 x3_1 = some r) k ⟨0, rfl, H⟩ ?_
  rintro m3 σ ⟨x3_1, rfl, H⟩
  cases m3 with
  | zero => exact absurd H (by simp [watchbillref07_tokenByte.l0])
  | succ m3 =>
    unfold watchbillref07_tokenByte.l0 at H
    refine Ok.seq ?_
    refine Ok.seq ?_
    refine Ok.region (σ' := ⟨[(0, (.v (.int .u8 a0))), (3, (.v (.int .i64 x3_1))), (5, (.v (.bool (decide (x3_1 < 15)))))], []⟩) ?_ ?_
    · refine .cv (VOk.mv (d := (.v (.int .i64 x3_1))) rfl rfl) rfl rfl ?_
      refine .cv (VOk.arith (op := .lss) (k := .i64) (a := x3_1) (b := 15) rfl rfl rfl rfl) rfl rfl ?_
      exact .done (.rf rfl rfl)
    refine Ok.test (b := (decide (x3_1 < 15))) rfl (fun hb8 => ?_) (fun hb8 => ?_)
    · replace H := ifT H hb8
      refine Ok.skip ?_
      refine Ok.seq ?_
      refine Ok.block ?_
      refine Ok.seq ?_
      obtain ⟨c4, H⟩ := assertE H
      refine Ok.region (σ' := ⟨[(0, (.v (.int .u8 a0))), (3, (.v (.int .i64 x3_1))), (11, (.v (.bool ((bt ([40, 41, 60, 62, 64, 44, 59, 58, 92, 34, 47, 91, 93, 63, 61] : Str) x3_1) == a0))))], []⟩) ?_ ?_
      · refine .cv (VOk.mv (d := (.v (.int .i64 x3_1))) rfl rfl) rfl rfl ?_
        refine .cv (VOk.indexStr (s := ([40, 41, 60, 62, 64, 44, 59, 58, 92, 34, 47, 91, 93, 63, 61] : Str)) (i := x3_1) rfl Tryd.underlying9 rfl rfl c4) rfl rfl ?_
        refine .cv (VOk.mv (d := (.v (.int .u8 a0))) rfl rfl) rfl rfl ?_
        refine .cv (VOk.arith (op := .eql) (k := .u8) (a := (bt ([40, 41, 60, 62, 64, 44, 59, 58, 92, 34, 47, 91, 93, 63, 61] : Str) x3_1)) (b := a0) rfl rfl rfl rfl) rfl rfl ?_
        exact .done (.rf rfl rfl)
      refine Ok.test (b := ((bt ([40, 41, 60, 62, 64, 44, 59, 58, 92, 34, 47, 91, 93, 63, 61] : Str) x3_1) == a0)) rfl (fun hb5 => ?_) (fun hb5 => ?_)
      · replace H := ifT H hb5
        refine Ok.seq ?_
        refine Ok.region (σ' := ⟨[(2, (.v (.bool false)))], []⟩) ?_ ?_
        · refine .cv (VOk.asg (d := (.v (.bool false))) rfl rfl) rfl rfl ?_
          exact .done (.rf rfl rfl)
        refine Ok.ret ?_
        obtain rfl := Option.some.inj H
        exact ⟨.inl rfl, ⟨_, (.cons (.tmp rfl) .nil), rfl⟩, trivial⟩
      · replace H := ifF H hb5
        refine Ok.skip ?_
        refine Ok.region (σ' := ⟨[(0, (.v (.int .u8 a0))), (3, (.v (.int .i64 (IntKind.i64.wrap (x3_1 + 1)))))], []⟩) ?_ ?_
        · refine .cv (VOk.mv (d := (.v (.int .i64 x3_1))) rfl rfl) rfl rfl ?_
          refine .cv (VOk.arith (op := .add) (k := .i64) (a := x3_1) (b := 1) rfl rfl rfl rfl) rfl rfl ?_
          refine .cv (VOk.asg (d := (.v (.int .i64 (IntKind.i64.wrap (x3_1 + 1))))) rfl rfl) rfl rfl ?_
          exact .done (.rf rfl rfl)
        exact ⟨m3, Nat.lt_succ_self m3, (IntKind.i64.wrap (x3_1 + 1)), rfl, H⟩
    · replace H := ifF H hb8
      refine Ok.exit ?_
      refine Ok.seq ?_
      refine Ok.region (σ' := ⟨[(2, (.v (.bool ((decide (a0 ≥ 33)) && (decide (a0 ≤ 126))))))], []⟩) ?_ ?_
      · refine .cv (VOk.mv (d := (.v (.int .u8 a0))) rfl rfl) rfl rfl ?_
        refine .cv (VOk.arith (op := .geq) (k := .u8) (a := a0) (b := 33) rfl rfl rfl rfl) rfl rfl ?_
        refine .cv (VOk.mv (d := (.v (.bool (decide (a0 ≥ 33))))) rfl rfl) rfl rfl ?_
        refine OpsOk.consI rfl rfl rfl (.one rfl) rfl (fun hw6 => (VOk.g (VOk.mv (d := (.v (.int .u8 a0))) rfl rfl))) ?_
        refine OpsOk.consI rfl rfl rfl (.one rfl) rfl (fun hw6 => (GOk.fr (fr' := [(15, (.v (.int .u8 a0)))]) ⟨DLe.of_eq (cT hw6).symm, trivial⟩ (VOk.g (VOk.arith (op := .leq) (k := .u8) (a := a0) (b := 126) rfl rfl rfl rfl)))) ?_
        refine .cv (VOk.to (VOk.pickI (b := (decide (a0 ≥ 33))) (p := (decide (a0 ≤ 126))) (q := false) rfl rfl (fun hp7 => (cT (t_beq hp7))) (fun hp7 => rfl)) (pickAnd (decide (a0 ≥ 33)) (decide (a0 ≤ 126)))) rfl rfl ?_
        refine .cv (VOk.asg (d := (.v (.bool ((decide (a0 ≥ 33)) && (decide (a0 ≤ 126)))))) rfl rfl) rfl rfl ?_
        exact .done (.rf rfl rfl)
      refine Ok.ret ?_
      obtain rfl := Option.some.inj H
      exact ⟨.inl rfl, ⟨_, (.cons (.tmp rfl) .nil), rfl⟩, trivial⟩

/-! watchbill/watchbillref07.Token: function 17 -/
def watchbillref07_Token.l0 (k : Nat) (a0 : Str) : Nat → Int → Option Bool
  | 0, _ => none
  | m3 + 1, x3_1 => (if (decide (x3_1 < (a0.length : Int))) = true then (if (0 : Int) ≤ x3_1 ∧ x3_1 < (a0.length : Int) then ((watchbillref07_tokenByte k (bt a0 x3_1)).bind fun (t5 : Bool) => (if (!t5) = true then some false else watchbillref07_Token.l0 k a0 m3 (IntKind.i64.wrap (x3_1 + 1)))) else none) else some (decide ((a0.length : Int) > 0)))
def watchbillref07_Token (k : Nat) (a0 : Str) : Option Bool := watchbillref07_Token.l0 k a0 k 0
theorem watchbillref07_Token.ok {k : Nat} {a0 : Str} {r : Bool} (H : watchbillref07_Token k a0 = some r) : Vx.Fn Tryd.prog 17 [(S a0)] [] (.v (.bool r)) [] := by
  unfold watchbillref07_Token at H
  refine Vx.Fn.of_okR Tryd.func17 rfl (Nat.le_of_ble_eq_true rfl) ?_
  refine Ok.seq ?_
  refine Ok.region (σ' := ⟨[(0, (S a0))], []⟩) ?_ ?_
  · refine .cv (VOk.asg (d := (.v (.bool false))) rfl rfl) rfl rfl ?_
    exact .done (.rf rfl rfl)
  refine Ok.seq ?_
  refine Ok.seq ?_
  refine Ok.region (σ' := ⟨[(0, (S a0)), (3, (.v (.int .i64 0)))], []⟩) ?_ ?_
  · refine .cv (VOk.asg (d := (.v (.int .i64 0))) rfl rfl) rfl rfl ?_
    exact .done (.rf rfl rfl)
  refine Ok.block ?_
  refine Ok.le (σ' := ⟨[(0, (S a0)), (3, (.v (.int .i64 0)))], []⟩) (.rf rfl rfl) ?_
  refine Ok.loop (fun m3 σ => ∃ (x3_1 : Int), σ = ⟨[(0, (S a0)), (3, (.v (.int .i64 x3_1)))], []⟩ ∧ watchbillref07_Token.l0 k a0 m3 x3_1 = some r) k ⟨0, rfl, H⟩ ?_
  rintro m3 σ ⟨x3_1, rfl, H⟩
  cases m3 with
  | zero => exact absurd H (by simp [watchbillref07_Token.l0])
  | succ m3 =>
    unfold watchbillref07_Token.l0 at H
    refine Ok.seq ?_
    refine Ok.seq ?_
    refine Ok.region (σ' := ⟨[(0, (S a0)), (3, (.v (.int .i64 x3_1))), (7, (.v (.bool (decide (x3_1 < (a0.length : Int))))))], []⟩) ?_ ?_
    · refine .cv (VOk.mv (d := (.v (.int .i64 x3_1))) rfl rfl) rfl rfl ?_
      refine .cv (VOk.mv (d := (S a0)) rfl rfl) rfl rfl ?_
      refine .cv (VOk.lenStr (s := a0) rfl Tryd.underlying9 rfl) rfl rfl ?_
      refine .cv (VOk.arith (op := .lss) (k := .i64) (a := x3_1) (b := (a0.length : Int)) rfl rfl rfl rfl) rfl rfl ?_
      exact .done (.rf rfl rfl)
    refine Ok.test (b := (decide (x3_1 < (a0.length : Int)))) rfl (fun hb8 => ?_) (fun hb8 => ?_)
    · replace H := ifT H hb8
      refine Ok.skip ?_
      refine Ok.seq ?_
      refine Ok.block ?_
      refine Ok.seq ?_
      obtain ⟨c4, H⟩ := assertE H
      obtain ⟨t5, h6, H⟩ := bindE H
      refine Ok.region (σ' := ⟨[(0, (S a0)), (3, (.v (.int .i64 x3_1))), (14, (.v (.bool (!t5))))], []⟩) ?_ ?_
      · refine .cv (VOk.mv (d := (S a0)) rfl rfl) rfl rfl ?_
        refine .cv (VOk.mv (d := (.v (.int .i64 x3_1))) rfl rfl) rfl rfl ?_
        refine .cv (VOk.indexStr (s := a0) (i := x3_1) rfl Tryd.underlying9 rfl rfl c4) rfl rfl ?_
        refine .cg (GOk.call rfl rfl cl39 rfl (watchbillref07_tokenByte.ok h6) rfl) rfl rfl ?_
        refine .cv (VOk.not (b := t5) rfl rfl) rfl rfl ?_
        exact .done (.rf rfl rfl)
      refine Ok.test (b := (!t5)) rfl (fun hb7 => ?_) (fun hb7 => ?_)
      · replace H := ifT H hb7
        refine Ok.seq ?_
        refine Ok.region (σ' := ⟨[(2, (.v (.bool false)))], []⟩) ?_ ?_
        · refine .cv (VOk.asg (d := (.v (.bool false))) rfl rfl) rfl rfl ?_
          exact .done (.rf rfl rfl)
        refine Ok.ret ?_
        obtain rfl := Option.some.inj H
        exact ⟨.inl rfl, ⟨_, (.cons (.tmp rfl) .nil), rfl⟩, trivial⟩
      · replace H := ifF H hb7
        refine Ok.skip ?_
        refine Ok.region (σ' := ⟨[(0, (S a0)), (3, (.v (.int .i64 (IntKind.i64.wrap (x3_1 + 1)))))], []⟩) ?_ ?_
        · refine .cv (VOk.mv (d := (.v (.int .i64 x3_1))) rfl rfl) rfl rfl ?_
          refine .cv (VOk.arith (op := .add) (k := .i64) (a := x3_1) (b := 1) rfl rfl rfl rfl) rfl rfl ?_
          refine .cv (VOk.asg (d := (.v (.int .i64 (IntKind.i64.wrap (x3_1 + 1))))) rfl rfl) rfl rfl ?_
          exact .done (.rf rfl rfl)
        exact ⟨m3, Nat.lt_succ_self m3, (IntKind.i64.wrap (x3_1 + 1)), rfl, H⟩
    · replace H := ifF H hb8
      refine Ok.exit ?_
      refine Ok.seq ?_
      refine Ok.region (σ' := ⟨[(2, (.v (.bool (decide ((a0.length : Int) > 0)))))], []⟩) ?_ ?_
      · refine .cv (VOk.mv (d := (S a0)) rfl rfl) rfl rfl ?_
        refine .cv (VOk.lenStr (s := a0) rfl Tryd.underlying9 rfl) rfl rfl ?_
        refine .cv (VOk.arith (op := .gtr) (k := .i64) (a := (a0.length : Int)) (b := 0) rfl rfl rfl rfl) rfl rfl ?_
        refine .cv (VOk.asg (d := (.v (.bool (decide ((a0.length : Int) > 0))))) rfl rfl) rfl rfl ?_
        exact .done (.rf rfl rfl)
      refine Ok.ret ?_
      obtain rfl := Option.some.inj H
      exact ⟨.inl rfl, ⟨_, (.cons (.tmp rfl) .nil), rfl⟩, trivial⟩

/-! watchbill/watchbillref07.slash: function 43 -/
def watchbillref07_slash.l0 (k : Nat) (a0 : Str) : Nat → Int → Option Int
  | 0, _ => none
  | m3 + 1, x3_1 => (if (decide (x3_1 < (a0.length : Int))) = true then (if (0 : Int) ≤ x3_1 ∧ x3_1 < (a0.length : Int) then (if ((bt a0 x3_1) == 47) = true then (if (0 : Int) ≤ 0 ∧ (0 : Int) ≤ x3_1 ∧ x3_1 ≤ (a0.length : Int) then ((watchbillref07_Token k (sl a0 0 x3_1)).bind fun (t6 : Bool) => (if ((t6 == true) = true → (0 : Int) ≤ (IntKind.i64.wrap (x3_1 + 1)) ∧ (IntKind.i64.wrap (x3_1 + 1)) ≤ (a0.length : Int) ∧ (a0.length : Int) ≤ (a0.length : Int)) then (((if (t6 == true) = true then watchbillref07_Token k (sl a0 (IntKind.i64.wrap (x3_1 + 1)) (a0.length : Int)) else some default)).bind fun (t10 : Bool) => (if (t6 && t10) = true then some x3_1 else some (-1))) else none)) else none) else watchbillref07_slash.l0 k a0 m3 (IntKind.i64.wrap (x3_1 + 1))) else none) else some (-1))
def watchbillref07_slash (k : Nat) (a0 : Str) : Option Int := watchbillref07_slash.l0 k a0 k 0
theorem watchbillref07_slash.ok {k : Nat} {a0 : Str} {r : Int} (H : watchbillref07_slash k a0 = some r) : Vx.Fn Tryd.prog 43 [(S a0)] [] (.v (.int .i64 r)) [] := by
  unfold watchbillref07_slash at H
  refine Vx.Fn.of_okR Tryd.func43 rfl (Nat.le_of_ble_eq_true rfl) ?_
  refine Ok.seq ?_
  refine Ok.region (σ' := ⟨[(0, (S a0))], []⟩) ?_ ?_
  · refine .cv (VOk.asg (d := (.v (.int .i64 0))) rfl rfl) rfl rfl ?_
    exact .done (.rf rfl rfl)
  refine Ok.seq ?_
  refine Ok.seq ?_
  refine Ok.region (σ' := ⟨[(0, (S a0)), (3, (.v (.int .i64 0)))], []⟩) ?_ ?_
  · refine .cv (VOk.asg (d := (.v (.int .i64 0))) rfl rfl) rfl rfl ?_
    exact .done (.rf rfl rfl)
  refine Ok.block ?_
  refine Ok.le (σ' := ⟨[(0, (S a0)), (3, (.v (.int .i64 0)))], []⟩) (.rf rfl rfl) ?_
  refine Ok.loop (fun m3 σ => ∃ (x3_1 : Int), σ = ⟨[(0, (S a0)), (3, (.v (.int .i64 x3_1)))], []⟩ ∧ watchbillref07_slash.l0 k a0 m3 x3_1 = some r) k ⟨0, rfl, H⟩ ?_
  rintro m3 σ ⟨x3_1, rfl, H⟩
  cases m3 with
  | zero => exact absurd H (by simp [watchbillref07_slash.l0])
  | succ m3 =>
    unfold watchbillref07_slash.l0 at H
    refine Ok.seq ?_
    refine Ok.seq ?_
    refine Ok.region (σ' := ⟨[(0, (S a0)), (3, (.v (.int .i64 x3_1))), (7, (.v (.bool (decide (x3_1 < (a0.length : Int))))))], []⟩) ?_ ?_
    · refine .cv (VOk.mv (d := (.v (.int .i64 x3_1))) rfl rfl) rfl rfl ?_
      refine .cv (VOk.mv (d := (S a0)) rfl rfl) rfl rfl ?_
      refine .cv (VOk.lenStr (s := a0) rfl Tryd.underlying9 rfl) rfl rfl ?_
      refine .cv (VOk.arith (op := .lss) (k := .i64) (a := x3_1) (b := (a0.length : Int)) rfl rfl rfl rfl) rfl rfl ?_
      exact .done (.rf rfl rfl)
    refine Ok.test (b := (decide (x3_1 < (a0.length : Int)))) rfl (fun hb15 => ?_) (fun hb15 => ?_)
    · replace H := ifT H hb15
      refine Ok.skip ?_
      refine Ok.seq ?_
      refine Ok.block ?_
      refine Ok.seq ?_
      obtain ⟨c4, H⟩ := assertE H
      refine Ok.region (σ' := ⟨[(0, (S a0)), (3, (.v (.int .i64 x3_1))), (13, (.v (.bool ((bt a0 x3_1) == 47))))], []⟩) ?_ ?_
      · refine .cv (VOk.mv (d := (S a0)) rfl rfl) rfl rfl ?_
        refine .cv (VOk.mv (d := (.v (.int .i64 x3_1))) rfl rfl) rfl rfl ?_
        refine .cv (VOk.indexStr (s := a0) (i := x3_1) rfl Tryd.underlying9 rfl rfl c4) rfl rfl ?_
        refine .cv (VOk.arith (op := .eql) (k := .u8) (a := (bt a0 x3_1)) (b := 47) rfl rfl rfl rfl) rfl rfl ?_
        exact .done (.rf rfl rfl)
      refine Ok.test (b := ((bt a0 x3_1) == 47)) rfl (fun hb14 => ?_) (fun hb14 => ?_)
      · replace H := ifT H hb14
        refine Ok.seq ?_
        refine Ok.seq ?_
        obtain ⟨c5, H⟩ := assertE H
        obtain ⟨t6, h7, H⟩ := bindE H
        obtain ⟨c9, H⟩ := assertE H
        obtain ⟨t10, h11, H⟩ := bindE H
        refine Ok.region (σ' := ⟨[(3, (.v (.int .i64 x3_1))), (24, (.v (.bool (t6 && t10))))], []⟩) ?_ ?_
        · refine .cv (VOk.mv (d := (S a0)) rfl rfl) rfl rfl ?_
          refine .cv (VOk.mv (d := (.v (.int .i64 x3_1))) rfl rfl) rfl rfl ?_
          refine .cv (VOk.sliceStr (s := a0) (l := 0) (h := x3_1) rfl Tryd.underlying9 rfl rfl rfl c5) rfl rfl ?_
          refine .cg (GOk.call rfl rfl cl17 rfl (watchbillref07_Token.ok h7) rfl) rfl rfl ?_
          refine .cv (VOk.mv (d := (.v (.bool t6))) rfl rfl) rfl rfl ?_
          refine OpsOk.consI rfl rfl rfl (.one rfl) rfl (fun hw8 => (VOk.g (VOk.mv (d := (S a0)) rfl rfl))) ?_
          refine OpsOk.consI rfl rfl rfl (.one rfl) rfl (fun hw8 => (VOk.g (VOk.mv (d := (.v (.int .i64 x3_1))) rfl rfl))) ?_
          refine OpsOk.consI rfl rfl rfl (.one rfl) rfl (fun hw8 => (GOk.fr (fr' := [(20, (.v (.int .i64 x3_1)))]) ⟨DLe.of_eq (cT hw8).symm, trivial⟩ (VOk.g (VOk.arith (op := .add) (k := .i64) (a := x3_1) (b := 1) rfl rfl rfl rfl)))) ?_
          refine OpsOk.consI rfl rfl rfl (.one rfl) rfl (fun hw8 => (GOk.fr (fr' := [(19, (S a0)), (21, (.v (.int .i64 (IntKind.i64.wrap (x3_1 + 1)))))]) ⟨DLe.of_eq (cT hw8).symm, DLe.of_eq (cT hw8).symm, trivial⟩ (VOk.g (VOk.sliceStr (s := a0) (l := (IntKind.i64.wrap (x3_1 + 1))) (h := (a0.length : Int)) rfl Tryd.underlying9 rfl rfl rfl (c9 hw8))))) ?_
          refine OpsOk.consI rfl rfl rfl (.one rfl) rfl (fun hw8 => (GOk.fr (fr' := [(22, (S (sl a0 (IntKind.i64.wrap (x3_1 + 1)) (a0.length : Int))))]) ⟨DLe.of_eq (cT hw8).symm, trivial⟩ (GOk.call rfl rfl cl17 rfl (watchbillref07_Token.ok (ifT h11 hw8)) rfl))) ?_
          refine .cv (VOk.to (VOk.pickI (b := t6) (p := t10) (q := false) rfl rfl (fun hp12 => (cT (t_beq hp12))) (fun hp12 => rfl)) (pickAnd t6 t10)) rfl rfl ?_
          exact .done (.rf rfl rfl)
        refine Ok.test (b := (t6 && t10)) rfl (fun hb13 => ?_) (fun hb13 => ?_)
        · replace H := ifT H hb13
          refine Ok.seq ?_
          refine Ok.region (σ' := ⟨[(2, (.v (.int .i64 x3_1)))], []⟩) ?_ ?_
          · refine .cv (VOk.mv (d := (.v (.int .i64 x3_1))) rfl rfl) rfl rfl ?_
            refine .cv (VOk.asg (d := (.v (.int .i64 x3_1))) rfl rfl) rfl rfl ?_
            exact .done (.rf rfl rfl)
          refine Ok.ret ?_
          obtain rfl := Option.some.inj H
          exact ⟨.inl rfl, ⟨_, (.cons (.tmp rfl) .nil), rfl⟩, trivial⟩
        · replace H := ifF H hb13
          refine Ok.skip ?_
          refine Ok.seq ?_
          refine Ok.region (σ' := ⟨[(2, (.v (.int .i64 (-1))))], []⟩) ?_ ?_
          · refine .cv (VOk.asg (d := (.v (.int .i64 (-1)))) rfl rfl) rfl rfl ?_
            exact .done (.rf rfl rfl)
          refine Ok.ret ?_
          obtain rfl := Option.some.inj H
          exact ⟨.inl rfl, ⟨_, (.cons (.tmp rfl) .nil), rfl⟩, trivial⟩
      · replace H := ifF H hb14
        refine Ok.skip ?_
        refine Ok.region (σ' := ⟨[(0, (S a0)), (3, (.v (.int .i64 (IntKind.i64.wrap (x3_1 + 1)))))], []⟩) ?_ ?_
        · refine .cv (VOk.mv (d := (.v (.int .i64 x3_1))) rfl rfl) rfl rfl ?_
          refine .cv (VOk.arith (op := .add) (k := .i64) (a := x3_1) (b := 1) rfl rfl rfl rfl) rfl rfl ?_
          refine .cv (VOk.asg (d := (.v (.int .i64 (IntKind.i64.wrap (x3_1 + 1))))) rfl rfl) rfl rfl ?_
          exact .done (.rf rfl rfl)
        exact ⟨m3, Nat.lt_succ_self m3, (IntKind.i64.wrap (x3_1 + 1)), rfl, H⟩
    · replace H := ifF H hb15
      refine Ok.exit ?_
      refine Ok.seq ?_
      refine Ok.region (σ' := ⟨[(2, (.v (.int .i64 (-1))))], []⟩) ?_ ?_
      · refine .cv (VOk.asg (d := (.v (.int .i64 (-1)))) rfl rfl) rfl rfl ?_
        exact .done (.rf rfl rfl)
      refine Ok.ret ?_
      obtain rfl := Option.some.inj H
      exact ⟨.inl rfl, ⟨_, (.cons (.tmp rfl) .nil), rfl⟩, trivial⟩

/-! watchbill/watchbillref07.Plain: function 44 -/
def watchbillref07_Plain.l0 (k : Nat) (a0 : Str) : Nat → Int → Option Bool
  | 0, _ => none
  | m3 + 1, x3_1 => (if (decide (x3_1 < (a0.length : Int))) = true then (if (0 : Int) ≤ x3_1 ∧ x3_1 < (a0.length : Int) then (if ((((bt a0 x3_1) != 9) == true) = true → (0 : Int) ≤ x3_1 ∧ x3_1 < (a0.length : Int)) then (if (((((bt a0 x3_1) != 9) == true) && ((decide ((bt a0 x3_1) < 32)) == false)) = true → (0 : Int) ≤ x3_1 ∧ x3_1 < (a0.length : Int)) then (if (((bt a0 x3_1) != 9) && ((decide ((bt a0 x3_1) < 32)) || (decide ((bt a0 x3_1) > 126)))) = true then some false else watchbillref07_Plain.l0 k a0 m3 (IntKind.i64.wrap (x3_1 + 1))) else none) else none) else none) else some true)
def watchbillref07_Plain (k : Nat) (a0 : Str) : Option Bool := watchbillref07_Plain.l0 k a0 k 0
theorem watchbillref07_Plain.ok {k : Nat} {a0 : Str} {r : Bool} (H : watchbillref07_Plain k a0 = some r) : Vx.Fn Tryd.prog 44 [(S a0)] [] (.v (.bool r)) [] := by
  unfold watchbillref07_Plain at H
  refine Vx.Fn.of_okR Tryd.func44 rfl (Nat.le_of_ble_eq_true rfl) ?_
  refine Ok.seq ?_
  refine Ok.region (σ' := ⟨[(0, (S a0))], []⟩) ?_ ?_
  · refine .cv (VOk.asg (d := (.v (.bool false))) rfl rfl) rfl rfl ?_
    exact .done (.rf rfl rfl)
  refine Ok.seq ?_
  refine Ok.seq ?_
  refine Ok.region (σ' := ⟨[(0, (S a0)), (3, (.v (.int .i64 0)))], []⟩) ?_ ?_
  · refine .cv (VOk.asg (d := (.v (.int .i64 0))) rfl rfl) rfl rfl ?_
    exact .done (.rf rfl rfl)
  refine Ok.block ?_
  refine Ok.le (σ' := ⟨[(0, (S a0)), (3, (.v (.int .i64 0)))], []⟩) (.rf rfl rfl) ?_
  refine Ok.loop (fun m3 σ => ∃ (x3_1 : Int), σ = ⟨[(0, (S a0)), (3, (.v (.int .i64 x3_1)))], []⟩ ∧ watchbillref07_Plain.l0 k a0 m3 x3_1 = some r) k ⟨0, rfl, H⟩ ?_
  rintro m3 σ ⟨x3_1, rfl, H⟩
  cases m3 with
  | zero => exact absurd H (by simp [watchbillref07_Plain.l0])
  | succ m3 =>
    unfold watchbillref07_Plain.l0 at H
    refine Ok.seq ?_
    refine Ok.seq ?_
    refine Ok.region (σ' := ⟨[(0, (S a0)), (3, (.v (.int .i64 x3_1))), (7, (.v (.bool (decide (x3_1 < (a0.length : Int))))))], []⟩) ?_ ?_
    · refine .cv (VOk.mv (d := (.v (.int .i64 x3_1))) rfl rfl) rfl rfl ?_
      refine .cv (VOk.mv (d := (S a0)) rfl rfl) rfl rfl ?_
      refine .cv (VOk.lenStr (s := a0) rfl Tryd.underlying9 rfl) rfl rfl ?_
      refine .cv (VOk.arith (op := .lss) (k := .i64) (a := x3_1) (b := (a0.length : Int)) rfl rfl rfl rfl) rfl rfl ?_
      exact .done (.rf rfl rfl)
    refine Ok.test (b := (decide (x3_1 < (a0.length : Int)))) rfl (fun hb12 => ?_) (fun hb12 => ?_)
    · replace H := ifT H hb12
      refine Ok.skip ?_
      refine Ok.seq ?_
      refine Ok.block ?_
      refine Ok.seq ?_
      obtain ⟨c4, H⟩ := assertE H
      obtain ⟨c6, H⟩ := assertE H
      obtain ⟨c8, H⟩ := assertE H
      refine Ok.region (σ' := ⟨[(0, (S a0)), (3, (.v (.int .i64 x3_1))), (25, (.v (.bool (((bt a0 x3_1) != 9) && ((decide ((bt a0 x3_1) < 32)) || (decide ((bt a0 x3_1) > 126)))))))], []⟩) ?_ ?_
      · refine .cv (VOk.mv (d := (S a0)) rfl rfl) rfl rfl ?_
        refine .cv (VOk.mv (d := (.v (.int .i64 x3_1))) rfl rfl) rfl rfl ?_
        refine .cv (VOk.indexStr (s := a0) (i := x3_1) rfl Tryd.underlying9 rfl rfl c4) rfl rfl ?_
        refine .cv (VOk.arith (op := .neq) (k := .u8) (a := (bt a0 x3_1)) (b := 9) rfl rfl rfl rfl) rfl rfl ?_
        refine .cv (VOk.mv (d := (.v (.bool ((bt a0 x3_1) != 9)))) rfl rfl) rfl rfl ?_
        refine OpsOk.consI rfl rfl rfl (.one rfl) rfl (fun hw5 => (VOk.g (VOk.mv (d := (S a0)) rfl rfl))) ?_
        refine OpsOk.consI rfl rfl rfl (.one rfl) rfl (fun hw5 => (VOk.g (VOk.mv (d := (.v (.int .i64 x3_1))) rfl rfl))) ?_
        refine OpsOk.consI rfl rfl rfl (.one rfl) rfl (fun hw5 => (GOk.fr (fr' := [(15, (S a0)), (16, (.v (.int .i64 x3_1)))]) ⟨DLe.of_eq (cT hw5).symm, DLe.of_eq (cT hw5).symm, trivial⟩ (VOk.g (VOk.indexStr (s := a0) (i := x3_1) rfl Tryd.underlying9 rfl rfl (c6 hw5))))) ?_
        refine OpsOk.consI rfl rfl rfl (.one rfl) rfl (fun hw5 => (GOk.fr (fr' := [(17, (.v (.int .u8 (bt a0 x3_1))))]) ⟨DLe.of_eq (cT hw5).symm, trivial⟩ (VOk.g (VOk.arith (op := .lss) (k := .u8) (a := (bt a0 x3_1)) (b := 32) rfl rfl rfl rfl)))) ?_
        refine OpsOk.consI rfl rfl rfl (.one rfl) rfl (fun hw5 => (GOk.fr (fr' := [(18, (.v (.bool (decide ((bt a0 x3_1) < 32)))))]) ⟨DLe.of_eq (cT hw5).symm, trivial⟩ (VOk.g (VOk.mv (d := (.v (.bool (decide ((bt a0 x3_1) < 32))))) rfl rfl)))) ?_
        refine OpsOk.consI rfl rfl rfl (.two rfl) rfl (fun hw7 => (VOk.g (VOk.mv (d := (S a0)) rfl rfl))) ?_
        refine OpsOk.consI rfl rfl rfl (.two rfl) rfl (fun hw7 => (VOk.g (VOk.mv (d := (.v (.int .i64 x3_1))) rfl rfl))) ?_
        refine OpsOk.consI rfl rfl rfl (.two rfl) rfl (fun hw7 => (GOk.fr (fr' := [(20, (S a0)), (21, (.v (.int .i64 x3_1)))]) ⟨DLe.of_eq (cT hw7).symm, DLe.of_eq (cT hw7).symm, trivial⟩ (VOk.g (VOk.indexStr (s := a0) (i := x3_1) rfl Tryd.underlying9 rfl rfl (c8 hw7))))) ?_
        refine OpsOk.consI rfl rfl rfl (.two rfl) rfl (fun hw7 => (GOk.fr (fr' := [(22, (.v (.int .u8 (bt a0 x3_1))))]) ⟨DLe.of_eq (cT hw7).symm, trivial⟩ (VOk.g (VOk.arith (op := .gtr) (k := .u8) (a := (bt a0 x3_1)) (b := 126) rfl rfl rfl rfl)))) ?_
        refine OpsOk.consI rfl rfl rfl (.one rfl) rfl (fun hw5 => (VOk.g (VOk.to (VOk.pickI (b := (decide ((bt a0 x3_1) < 32))) (p := true) (q := (decide ((bt a0 x3_1) > 126))) rfl (cT hw5) (fun hp9 => rfl) (fun hp9 => (cT (and_i hw5 (f_beq hp9))))) (pickOr (decide ((bt a0 x3_1) < 32)) (decide ((bt a0 x3_1) > 126)))))) ?_
        refine .cv (VOk.to (VOk.pickI (b := ((bt a0 x3_1) != 9)) (p := ((decide ((bt a0 x3_1) < 32)) || (decide ((bt a0 x3_1) > 126)))) (q := false) rfl rfl (fun hp10 => (cT (t_beq hp10))) (fun hp10 => rfl)) (pickAnd ((bt a0 x3_1) != 9) ((decide ((bt a0 x3_1) < 32)) || (decide ((bt a0 x3_1) > 126))))) rfl rfl ?_
        exact .done (.rf rfl rfl)
      refine Ok.test (b := (((bt a0 x3_1) != 9) && ((decide ((bt a0 x3_1) < 32)) || (decide ((bt a0 x3_1) > 126))))) rfl (fun hb11 => ?_) (fun hb11 => ?_)
      · replace H := ifT H hb11
        refine Ok.seq ?_
        refine Ok.region (σ' := ⟨[(2, (.v (.bool false)))], []⟩) ?_ ?_
        · refine .cv (VOk.asg (d := (.v (.bool false))) rfl rfl) rfl rfl ?_
          exact .done (.rf rfl rfl)
        refine Ok.ret ?_
        obtain rfl := Option.some.inj H
        exact ⟨.inl rfl, ⟨_, (.cons (.tmp rfl) .nil), rfl⟩, trivial⟩
      · replace H := ifF H hb11
        refine Ok.skip ?_
        refine Ok.region (σ' := ⟨[(0, (S a0)), (3, (.v (.int .i64 (IntKind.i64.wrap (x3_1 + 1)))))], []⟩) ?_ ?_
        · refine .cv (VOk.mv (d := (.v (.int .i64 x3_1))) rfl rfl) rfl rfl ?_
          refine .cv (VOk.arith (op := .add) (k := .i64) (a := x3_1) (b := 1) rfl rfl rfl rfl) rfl rfl ?_
          refine .cv (VOk.asg (d := (.v (.int .i64 (IntKind.i64.wrap (x3_1 + 1))))) rfl rfl) rfl rfl ?_
          exact .done (.rf rfl rfl)
        exact ⟨m3, Nat.lt_succ_self m3, (IntKind.i64.wrap (x3_1 + 1)), rfl, H⟩
    · replace H := ifF H hb12
      refine Ok.exit ?_
      refine Ok.seq ?_
      refine Ok.region (σ' := ⟨[(2, (.v (.bool true)))], []⟩) ?_ ?_
      · refine .cv (VOk.asg (d := (.v (.bool true))) rfl rfl) rfl rfl ?_
        exact .done (.rf rfl rfl)
      refine Ok.ret ?_
      obtain rfl := Option.some.inj H
      exact ⟨.inl rfl, ⟨_, (.cons (.tmp rfl) .nil), rfl⟩, trivial⟩

/-! watchbill/watchbillref07.PrintType: function 20 -/
def watchbillref07_PrintType.j2 (c1 : Str → Int → Option (Str × Int)) (a1 : List T_api_Field) (x7_4 : Int) (x9_23 : Int) (x6_27 : Str) : Option (Str × Int) := (if (0 : Int) ≤ x9_23 ∧ x9_23 ≤ (IntKind.i64.wrap (x9_23 + 1)) ∧ (IntKind.i64.wrap (x9_23 + 1)) ≤ (((rd a1 x7_4).Value).length : Int) then (if x6_27.length + (sl ((rd a1 x7_4).Value) x9_23 (IntKind.i64.wrap (x9_23 + 1))).length ≤ 9223372036854775807 then c1 (x6_27 ++ (sl ((rd a1 x7_4).Value) x9_23 (IntKind.i64.wrap (x9_23 + 1)))) (IntKind.i64.wrap (x9_23 + 1)) else none) else none)
def watchbillref07_PrintType.l1 (k : Nat) (c0 : Str → Int → Option (Str × Int)) (a1 : List T_api_Field) (x7_4 : Int) : Nat → Str → Int → Option (Str × Int)
  | 0, _, _ => none
  | m26 + 1, x6_22, x9_23 => (if (decide (x9_23 < (((rd a1 x7_4).Value).length : Int))) = true then (if (0 : Int) ≤ x9_23 ∧ x9_23 < (((rd a1 x7_4).Value).length : Int) then (if ((((bt ((rd a1 x7_4).Value) x9_23) == 34) == false) = true → (0 : Int) ≤ x9_23 ∧ x9_23 < (((rd a1 x7_4).Value).length : Int)) then (if (((bt ((rd a1 x7_4).Value) x9_23) == 34) || ((bt ((rd a1 x7_4).Value) x9_23) == 92)) = true then (if x6_22.length + ([92] : Str).length ≤ 9223372036854775807 then watchbillref07_PrintType.j2 (watchbillref07_PrintType.l1 k c0 a1 x7_4 m26) a1 x7_4 x9_23 (x6_22 ++ ([92] : Str)) else none) else watchbillref07_PrintType.j2 (watchbillref07_PrintType.l1 k c0 a1 x7_4 m26) a1 x7_4 x9_23 x6_22) else none) else none) else (if x6_22.length + ([34] : Str).length ≤ 9223372036854775807 then c0 (x6_22 ++ ([34] : Str)) (IntKind.i64.wrap (x7_4 + 1)) else none))
def watchbillref07_PrintType.l0 (k : Nat) (a1 : List T_api_Field) : Nat → Str → Int → Option (Str × Int)
  | 0, _, _ => none
  | m7 + 1, x6_3, x7_4 => (if (decide (x7_4 < (a1.length : Int))) = true then (if (0 : Int) ≤ x7_4 ∧ x7_4 < (a1.length : Int) then ((watchbillref07_Token k ((rd a1 x7_4).Name)).bind fun (t9 : Bool) => (if (!t9) = true then some (([] : Str), 12) else (if (0 : Int) ≤ x7_4 ∧ x7_4 < (a1.length : Int) then ((watchbillref07_Plain k ((rd a1 x7_4).Value)).bind fun (t12 : Bool) => (if (!t12) = true then some (([] : Str), 4) else (if x6_3.length + ([59, 32] : Str).length ≤ 9223372036854775807 then (if (0 : Int) ≤ x7_4 ∧ x7_4 < (a1.length : Int) then (if (x6_3 ++ ([59, 32] : Str)).length + ((rd a1 x7_4).Name).length ≤ 9223372036854775807 then (if ((x6_3 ++ ([59, 32] : Str)) ++ ((rd a1 x7_4).Name)).length + ([61] : Str).length ≤ 9223372036854775807 then ((watchbillref07_Token k ((rd a1 x7_4).Value)).bind fun (t18 : Bool) => (if t18 = true then (if (((x6_3 ++ ([59, 32] : Str)) ++ ((rd a1 x7_4).Name)) ++ ([61] : Str)).length + ((rd a1 x7_4).Value).length ≤ 9223372036854775807 then watchbillref07_PrintType.l0 k a1 m7 ((((x6_3 ++ ([59, 32] : Str)) ++ ((rd a1 x7_4).Name)) ++ ([61] : Str)) ++ ((rd a1 x7_4).Value)) (IntKind.i64.wrap (x7_4 + 1)) else none) else (if (((x6_3 ++ ([59, 32] : Str)) ++ ((rd a1 x7_4).Name)) ++ ([61] : Str)).length + ([34] : Str).length ≤ 9223372036854775807 then watchbillref07_PrintType.l1 k (watchbillref07_PrintType.l0 k a1 m7) a1 x7_4 k ((((x6_3 ++ ([59, 32] : Str)) ++ ((rd a1 x7_4).Name)) ++ ([61] : Str)) ++ ([34] : Str)) 0 else none))) else none) else none) else none) else none))) else none))) else none) else some (x6_3, 0))
def watchbillref07_PrintType (k : Nat) (a0 : Str) (a1 : List T_api_Field) : Option (Str × Int) := ((watchbillref07_slash k a0).bind fun (t1 : Int) => (if (decide (t1 < 0)) = true then some (([] : Str), 31) else watchbillref07_PrintType.l0 k a1 k a0 0))
theorem watchbillref07_PrintType.ok {k : Nat} {a0 : Str} {a1 : List T_api_Field} {r : Str × Int} (H : watchbillref07_PrintType k a0 a1 = some r) : Vx.Fn Tryd.prog 20 [(S a0), (L 2 e_api_Field a1)] [] (.tup [(S r.1), (.v (.int .i64 r.2))]) [] := by
  unfold watchbillref07_PrintType at H
  refine Vx.Fn.of_okR Tryd.func20 rfl (Nat.le_of_ble_eq_true rfl) ?_
  refine Ok.seq ?_
  refine Ok.region (σ' := ⟨[(0, (S a0)), (1, (L 2 e_api_Field a1))], []⟩) ?_ ?_
  · refine .cv (VOk.asg (d := (S ([] : Str))) rfl rfl) rfl rfl ?_
    refine .cv (VOk.asg (d := (.v (.int .i64 0))) rfl rfl) rfl rfl ?_
    exact .done (.rf rfl rfl)
  refine Ok.seq ?_
  refine Ok.seq ?_
  obtain ⟨t1, h2, H⟩ := bindE H
  refine Ok.region (σ' := ⟨[(0, (S a0)), (1, (L 2 e_api_Field a1)), (12, (.v (.bool (decide (t1 < 0)))))], []⟩) ?_ ?_
  · refine .cv (VOk.mv (d := (S a0)) rfl rfl) rfl rfl ?_
    refine .cg (GOk.call rfl rfl cl43 rfl (watchbillref07_slash.ok h2) rfl) rfl rfl ?_
    refine .cv (VOk.arith (op := .lss) (k := .i64) (a := t1) (b := 0) rfl rfl rfl rfl) rfl rfl ?_
    exact .done (.rf rfl rfl)
  refine Ok.test (b := (decide (t1 < 0))) rfl (fun hb42 => ?_) (fun hb42 => ?_)
  · replace H := ifT H hb42
    refine Ok.seq ?_
    refine Ok.region (σ' := ⟨[(4, (S ([] : Str))), (5, (.v (.int .i64 31)))], []⟩) ?_ ?_
    · refine .cv (VOk.asg (d := (S ([] : Str))) rfl rfl) rfl rfl ?_
      refine .cv (VOk.asg (d := (.v (.int .i64 31))) rfl rfl) rfl rfl ?_
      exact .done (.rf rfl rfl)
    refine Ok.ret ?_
    obtain rfl := Option.some.inj H
    exact ⟨.inl rfl, ⟨_, (.cons (.tmp rfl) (.cons (.tmp rfl) .nil)), rfl⟩, trivial⟩
  · replace H := ifF H hb42
    refine Ok.skip ?_
    refine Ok.seq ?_
    refine Ok.region (σ' := ⟨[(1, (L 2 e_api_Field a1)), (6, (S a0))], []⟩) ?_ ?_
    · refine .cv (VOk.mv (d := (S a0)) rfl rfl) rfl rfl ?_
      refine .cv (VOk.asg (d := (S a0)) rfl rfl) rfl rfl ?_
      exact .done (.rf rfl rfl)
    refine Ok.seq ?_
    refine Ok.seq ?_
    refine Ok.region (σ' := ⟨[(1, (L 2 e_api_Field a1)), (6, (S a0)), (7, (.v (.int .i64 0)))], []⟩) ?_ ?_
    · refine .cv (VOk.asg (d := (.v (.int .i64 0))) rfl rfl) rfl rfl ?_
      exact .done (.rf rfl rfl)
    refine Ok.block ?_
    refine Ok.le (σ' := ⟨[(1, (L 2 e_api_Field a1)), (6, (S a0)), (7, (.v (.int .i64 0)))], []⟩) (.rf rfl rfl) ?_
    refine Ok.loop (fun m7 σ => ∃ (x6_3 : Str) (x7_4 : Int), σ = ⟨[(1, (L 2 e_api_Field a1)), (6, (S x6_3)), (7, (.v (.int .i64 x7_4)))], []⟩ ∧ watchbillref07_PrintType.l0 k a1 m7 x6_3 x7_4 = some r) k ⟨a0, 0, rfl, H⟩ ?_
    rintro m7 σ ⟨x6_3, x7_4, rfl, H⟩
    cases m7 with
    | zero => exact absurd H (by simp [watchbillref07_PrintType.l0])
    | succ m7 =>
      unfold watchbillref07_PrintType.l0 at H
      refine Ok.seq ?_
      refine Ok.seq ?_
      refine Ok.region (σ' := ⟨[(1, (L 2 e_api_Field a1)), (6, (S x6_3)), (7, (.v (.int .i64 x7_4))), (17, (.v (.bool (decide (x7_4 < (a1.length : Int))))))], []⟩) ?_ ?_
      · refine .cv (VOk.mv (d := (.v (.int .i64 x7_4))) rfl rfl) rfl rfl ?_
        refine .cv (VOk.mv (d := (L 2 e_api_Field a1)) rfl rfl) rfl rfl ?_
        refine .cv (VOk.lenL (e := e_api_Field) (xs := a1) rfl Tryd.underlying42 rfl) rfl rfl ?_
        refine .cv (VOk.arith (op := .lss) (k := .i64) (a := x7_4) (b := (a1.length : Int)) rfl rfl rfl rfl) rfl rfl ?_
        exact .done (.rf rfl rfl)
      refine Ok.test (b := (decide (x7_4 < (a1.length : Int)))) rfl (fun hb41 => ?_) (fun hb41 => ?_)
      · replace H := ifT H hb41
        refine Ok.skip ?_
        refine Ok.seq ?_
        refine Ok.block ?_
        refine Ok.seq ?_
        refine Ok.seq ?_
        obtain ⟨c8, H⟩ := assertE H
        obtain ⟨t9, h10, H⟩ := bindE H
        refine Ok.region (σ' := ⟨[(1, (L 2 e_api_Field a1)), (6, (S x6_3)), (7, (.v (.int .i64 x7_4))), (26, (.v (.bool (!t9))))], []⟩) ?_ ?_
        · refine .cv (VOk.mv (d := (L 2 e_api_Field a1)) rfl rfl) rfl rfl ?_
          refine .cv (VOk.mv (d := (.v (.int .i64 x7_4))) rfl rfl) rfl rfl ?_
          refine .cv (VOk.indexL (sz := 2) (e := e_api_Field) (xs := a1) (i := x7_4) rfl Tryd.underlying42 sz54 rfl rfl c8) rfl rfl ?_
          refine .cv (VOk.to (VOk.fieldFp rfl Tryd.underlying54 rfl sz9 rfl) rfl) rfl rfl ?_
          refine .cv (VOk.loadFp (d := (S ((rd a1 x7_4).Name))) rfl Tryd.underlying9 rfl rfl rfl) rfl rfl ?_
          refine .cg (GOk.call rfl rfl cl17 rfl (watchbillref07_Token.ok h10) rfl) rfl rfl ?_
          refine .cv (VOk.not (b := t9) rfl rfl) rfl rfl ?_
          exact .done (.rf rfl rfl)
        refine Ok.test (b := (!t9)) rfl (fun hb40 => ?_) (fun hb40 => ?_)
        · replace H := ifT H hb40
          refine Ok.seq ?_
          refine Ok.region (σ' := ⟨[(4, (S ([] : Str))), (5, (.v (.int .i64 12)))], []⟩) ?_ ?_
          · refine .cv (VOk.asg (d := (S ([] : Str))) rfl rfl) rfl rfl ?_
            refine .cv (VOk.asg (d := (.v (.int .i64 12))) rfl rfl) rfl rfl ?_
            exact .done (.rf rfl rfl)
          refine Ok.ret ?_
          obtain rfl := Option.some.inj H
          exact ⟨.inl rfl, ⟨_, (.cons (.tmp rfl) (.cons (.tmp rfl) .nil)), rfl⟩, trivial⟩
        · replace H := ifF H hb40
          refine Ok.skip ?_
          refine Ok.seq ?_
          obtain ⟨c11, H⟩ := assertE H
          refine Ok.region (σ' := ⟨[(1, (L 2 e_api_Field a1)), (6, (S x6_3)), (7, (.v (.int .i64 x7_4))), (8, (S ((rd a1 x7_4).Value)))], []⟩) ?_ ?_
          · refine .cv (VOk.mv (d := (L 2 e_api_Field a1)) rfl rfl) rfl rfl ?_
            refine .cv (VOk.mv (d := (.v (.int .i64 x7_4))) rfl rfl) rfl rfl ?_
            refine .cv (VOk.indexL (sz := 2) (e := e_api_Field) (xs := a1) (i := x7_4) rfl Tryd.underlying42 sz54 rfl rfl c11) rfl rfl ?_
            refine .cv (VOk.to (VOk.fieldFp rfl Tryd.underlying54 rfl sz9 rfl) rfl) rfl rfl ?_
            refine .cv (VOk.loadFp (d := (S ((rd a1 x7_4).Value))) rfl Tryd.underlying9 rfl rfl rfl) rfl rfl ?_
            refine .cv (VOk.asg (d := (S ((rd a1 x7_4).Value))) rfl rfl) rfl rfl ?_
            exact .done (.rf rfl rfl)
          refine Ok.seq ?_
          refine Ok.seq ?_
          obtain ⟨t12, h13, H⟩ := bindE H
          refine Ok.region (σ' := ⟨[(1, (L 2 e_api_Field a1)), (6, (S x6_3)), (7, (.v (.int .i64 x7_4))), (8, (S ((rd a1 x7_4).Value))), (34, (.v (.bool (!t12))))], []⟩) ?_ ?_
          · refine .cv (VOk.mv (d := (S ((rd a1 x7_4).Value))) rfl rfl) rfl rfl ?_
            refine .cg (GOk.call rfl rfl cl44 rfl (watchbillref07_Plain.ok h13) rfl) rfl rfl ?_
            refine .cv (VOk.not (b := t12) rfl rfl) rfl rfl ?_
            exact .done (.rf rfl rfl)
          refine Ok.test (b := (!t12)) rfl (fun hb39 => ?_) (fun hb39 => ?_)
          · replace H := ifT H hb39
            refine Ok.seq ?_
            refine Ok.region (σ' := ⟨[(4, (S ([] : Str))), (5, (.v (.int .i64 4)))], []⟩) ?_ ?_
            · refine .cv (VOk.asg (d := (S ([] : Str))) rfl rfl) rfl rfl ?_
              refine .cv (VOk.asg (d := (.v (.int .i64 4))) rfl rfl) rfl rfl ?_
              exact .done (.rf rfl rfl)
            refine Ok.ret ?_
            obtain rfl := Option.some.inj H
            exact ⟨.inl rfl, ⟨_, (.cons (.tmp rfl) (.cons (.tmp rfl) .nil)), rfl⟩, trivial⟩
          · replace H := ifF H hb39
            refine Ok.skip ?_
            refine Ok.seq ?_
            obtain ⟨c14, H⟩ := assertE H
            obtain ⟨c15, H⟩ := assertE H
            obtain ⟨c16, H⟩ := assertE H
            obtain ⟨c17, H⟩ := assertE H
            refine Ok.region (σ' := ⟨[(1, (L 2 e_api_Field a1)), (6, (S (((x6_3 ++ ([59, 32] : Str)) ++ ((rd a1 x7_4).Name)) ++ ([61] : Str)))), (7, (.v (.int .i64 x7_4))), (8, (S ((rd a1 x7_4).Value)))], []⟩) ?_ ?_
            · refine .cv (VOk.mv (d := (S x6_3)) rfl rfl) rfl rfl ?_
              refine .cv (VOk.cat (a := x6_3) (b := ([59, 32] : Str)) rfl rfl rfl c14) rfl rfl ?_
              refine .cv (VOk.mv (d := (L 2 e_api_Field a1)) rfl rfl) rfl rfl ?_
              refine .cv (VOk.mv (d := (.v (.int .i64 x7_4))) rfl rfl) rfl rfl ?_
              refine .cv (VOk.indexL (sz := 2) (e := e_api_Field) (xs := a1) (i := x7_4) rfl Tryd.underlying42 sz54 rfl rfl c15) rfl rfl ?_
              refine .cv (VOk.to (VOk.fieldFp rfl Tryd.underlying54 rfl sz9 rfl) rfl) rfl rfl ?_
              refine .cv (VOk.loadFp (d := (S ((rd a1 x7_4).Name))) rfl Tryd.underlying9 rfl rfl rfl) rfl rfl ?_
              refine .cv (VOk.cat (a := (x6_3 ++ ([59, 32] : Str))) (b := (rd a1 x7_4).Name) rfl rfl rfl c16) rfl rfl ?_
              refine .cv (VOk.cat (a := ((x6_3 ++ ([59, 32] : Str)) ++ ((rd a1 x7_4).Name))) (b := ([61] : Str)) rfl rfl rfl c17) rfl rfl ?_
              refine .cv (VOk.asg (d := (S (((x6_3 ++ ([59, 32] : Str)) ++ ((rd a1 x7_4).Name)) ++ ([61] : Str)))) rfl rfl) rfl rfl ?_
              exact .done (.rf rfl rfl)
            refine Ok.seq ?_
            refine Ok.seq ?_
            obtain ⟨t18, h19, H⟩ := bindE H
            refine Ok.region (σ' := ⟨[(1, (L 2 e_api_Field a1)), (6, (S (((x6_3 ++ ([59, 32] : Str)) ++ ((rd a1 x7_4).Name)) ++ ([61] : Str)))), (7, (.v (.int .i64 x7_4))), (8, (S ((rd a1 x7_4).Value))), (45, (.v (.bool t18)))], []⟩) ?_ ?_
            · refine .cv (VOk.mv (d := (S ((rd a1 x7_4).Value))) rfl rfl) rfl rfl ?_
              refine .cg (GOk.call rfl rfl cl17 rfl (watchbillref07_Token.ok h19) rfl) rfl rfl ?_
              exact .done (.rf rfl rfl)
            refine Ok.test (b := t18) rfl (fun hb38 => ?_) (fun hb38 => ?_)
            · replace H := ifT H hb38
              refine Ok.seq ?_
              obtain ⟨c20, H⟩ := assertE H
              refine Ok.region (σ' := ⟨[(1, (L 2 e_api_Field a1)), (6, (S ((((x6_3 ++ ([59, 32] : Str)) ++ ((rd a1 x7_4).Name)) ++ ([61] : Str)) ++ ((rd a1 x7_4).Value)))), (7, (.v (.int .i64 x7_4)))], []⟩) ?_ ?_
              · refine .cv (VOk.mv (d := (S (((x6_3 ++ ([59, 32] : Str)) ++ ((rd a1 x7_4).Name)) ++ ([61] : Str)))) rfl rfl) rfl rfl ?_
                refine .cv (VOk.mv (d := (S ((rd a1 x7_4).Value))) rfl rfl) rfl rfl ?_
                refine .cv (VOk.cat (a := (((x6_3 ++ ([59, 32] : Str)) ++ ((rd a1 x7_4).Name)) ++ ([61] : Str))) (b := (rd a1 x7_4).Value) rfl rfl rfl c20) rfl rfl ?_
                refine .cv (VOk.asg (d := (S ((((x6_3 ++ ([59, 32] : Str)) ++ ((rd a1 x7_4).Name)) ++ ([61] : Str)) ++ ((rd a1 x7_4).Value)))) rfl rfl) rfl rfl ?_
                exact .done (.rf rfl rfl)
              refine Ok.exit ?_
              refine Ok.region (σ' := ⟨[(1, (L 2 e_api_Field a1)), (6, (S ((((x6_3 ++ ([59, 32] : Str)) ++ ((rd a1 x7_4).Name)) ++ ([61] : Str)) ++ ((rd a1 x7_4).Value)))), (7, (.v (.int .i64 (IntKind.i64.wrap (x7_4 + 1)))))], []⟩) ?_ ?_
              · refine .cv (VOk.mv (d := (.v (.int .i64 x7_4))) rfl rfl) rfl rfl ?_
                refine .cv (VOk.arith (op := .add) (k := .i64) (a := x7_4) (b := 1) rfl rfl rfl rfl) rfl rfl ?_
                refine .cv (VOk.asg (d := (.v (.int .i64 (IntKind.i64.wrap (x7_4 + 1))))) rfl rfl) rfl rfl ?_
                exact .done (.rf rfl rfl)
              exact ⟨m7, Nat.lt_succ_self m7, ((((x6_3 ++ ([59, 32] : Str)) ++ ((rd a1 x7_4).Name)) ++ ([61] : Str)) ++ ((rd a1 x7_4).Value)), (IntKind.i64.wrap (x7_4 + 1)), rfl, H⟩
            · replace H := ifF H hb38
              refine Ok.skip ?_
              refine Ok.seq ?_
              obtain ⟨c21, H⟩ := assertE H
              refine Ok.region (σ' := ⟨[(1, (L 2 e_api_Field a1)), (6, (S ((((x6_3 ++ ([59, 32] : Str)) ++ ((rd a1 x7_4).Name)) ++ ([61] : Str)) ++ ([34] : Str)))), (7, (.v (.int .i64 x7_4))), (8, (S ((rd a1 x7_4).Value)))], []⟩) ?_ ?_
              · refine .cv (VOk.mv (d := (S (((x6_3 ++ ([59, 32] : Str)) ++ ((rd a1 x7_4).Name)) ++ ([61] : Str)))) rfl rfl) rfl rfl ?_
                refine .cv (VOk.cat (a := (((x6_3 ++ ([59, 32] : Str)) ++ ((rd a1 x7_4).Name)) ++ ([61] : Str))) (b := ([34] : Str)) rfl rfl rfl c21) rfl rfl ?_
                refine .cv (VOk.asg (d := (S ((((x6_3 ++ ([59, 32] : Str)) ++ ((rd a1 x7_4).Name)) ++ ([61] : Str)) ++ ([34] : Str)))) rfl rfl) rfl rfl ?_
                exact .done (.rf rfl rfl)
              refine Ok.seq ?_
              refine Ok.seq ?_
              refine Ok.region (σ' := ⟨[(1, (L 2 e_api_Field a1)), (6, (S ((((x6_3 ++ ([59, 32] : Str)) ++ ((rd a1 x7_4).Name)) ++ ([61] : Str)) ++ ([34] : Str)))), (7, (.v (.int .i64 x7_4))), (8, (S ((rd a1 x7_4).Value))), (9, (.v (.int .i64 0)))], []⟩) ?_ ?_
              · refine .cv (VOk.asg (d := (.v (.int .i64 0))) rfl rfl) rfl rfl ?_
                exact .done (.rf rfl rfl)
              refine Ok.block ?_
              refine Ok.le (σ' := ⟨[(1, (L 2 e_api_Field a1)), (6, (S ((((x6_3 ++ ([59, 32] : Str)) ++ ((rd a1 x7_4).Name)) ++ ([61] : Str)) ++ ([34] : Str)))), (7, (.v (.int .i64 x7_4))), (8, (S ((rd a1 x7_4).Value))), (9, (.v (.int .i64 0)))], []⟩) (.rf rfl rfl) ?_
              refine Ok.loop (fun m26 σ => ∃ (x6_22 : Str) (x9_23 : Int), σ = ⟨[(1, (L 2 e_api_Field a1)), (6, (S x6_22)), (7, (.v (.int .i64 x7_4))), (8, (S ((rd a1 x7_4).Value))), (9, (.v (.int .i64 x9_23)))], []⟩ ∧ watchbillref07_PrintType.l1 k (watchbillref07_PrintType.l0 k a1 m7) a1 x7_4 m26 x6_22 x9_23 = some r) k ⟨((((x6_3 ++ ([59, 32] : Str)) ++ ((rd a1 x7_4).Name)) ++ ([61] : Str)) ++ ([34] : Str)), 0, rfl, H⟩ ?_
              rintro m26 σ ⟨x6_22, x9_23, rfl, H⟩
              cases m26 with
              | zero => exact absurd H (by simp [watchbillref07_PrintType.l1])
              | succ m26 =>
                unfold watchbillref07_PrintType.l1 at H
                refine Ok.seq ?_
                refine Ok.seq ?_
                refine Ok.region (σ' := ⟨[(1, (L 2 e_api_Field a1)), (6, (S x6_22)), (7, (.v (.int .i64 x7_4))), (8, (S ((rd a1 x7_4).Value))), (9, (.v (.int .i64 x9_23))), (54, (.v (.bool (decide (x9_23 < (((rd a1 x7_4).Value).length : Int))))))], []⟩) ?_ ?_
                · refine .cv (VOk.mv (d := (.v (.int .i64 x9_23))) rfl rfl) rfl rfl ?_
                  refine .cv (VOk.mv (d := (S ((rd a1 x7_4).Value))) rfl rfl) rfl rfl ?_
                  refine .cv (VOk.lenStr (s := (rd a1 x7_4).Value) rfl Tryd.underlying9 rfl) rfl rfl ?_
                  refine .cv (VOk.arith (op := .lss) (k := .i64) (a := x9_23) (b := (((rd a1 x7_4).Value).length : Int)) rfl rfl rfl rfl) rfl rfl ?_
                  exact .done (.rf rfl rfl)
                refine Ok.test (b := (decide (x9_23 < (((rd a1 x7_4).Value).length : Int)))) rfl (fun hb37 => ?_) (fun hb37 => ?_)
                · replace H := ifT H hb37
                  refine Ok.skip ?_
                  refine Ok.seq ?_
                  refine Ok.block ?_
                  refine Ok.meet (fun σ => ∃ (x6_27 : Str), σ = ⟨[(1, (L 2 e_api_Field a1)), (6, (S x6_27)), (7, (.v (.int .i64 x7_4))), (8, (S ((rd a1 x7_4).Value))), (9, (.v (.int .i64 x9_23)))], []⟩ ∧ watchbillref07_PrintType.j2 (watchbillref07_PrintType.l1 k (watchbillref07_PrintType.l0 k a1 m7) a1 x7_4 m26) a1 x7_4 x9_23 x6_27 = some r) ?_ ?_
                  · refine Ok.seq ?_
                    obtain ⟨c30, H⟩ := assertE H
                    obtain ⟨c32, H⟩ := assertE H
                    refine Ok.region (σ' := ⟨[(1, (L 2 e_api_Field a1)), (6, (S x6_22)), (7, (.v (.int .i64 x7_4))), (8, (S ((rd a1 x7_4).Value))), (9, (.v (.int .i64 x9_23))), (66, (.v (.bool (((bt ((rd a1 x7_4).Value) x9_23) == 34) || ((bt ((rd a1 x7_4).Value) x9_23) == 92)))))], []⟩) ?_ ?_
                    · refine .cv (VOk.mv (d := (S ((rd a1 x7_4).Value))) rfl rfl) rfl rfl ?_
                      refine .cv (VOk.mv (d := (.v (.int .i64 x9_23))) rfl rfl) rfl rfl ?_
                      refine .cv (VOk.indexStr (s := (rd a1 x7_4).Value) (i := x9_23) rfl Tryd.underlying9 rfl rfl c30) rfl rfl ?_
                      refine .cv (VOk.arith (op := .eql) (k := .u8) (a := (bt ((rd a1 x7_4).Value) x9_23)) (b := 34) rfl rfl rfl rfl) rfl rfl ?_
                      refine .cv (VOk.mv (d := (.v (.bool ((bt ((rd a1 x7_4).Value) x9_23) == 34)))) rfl rfl) rfl rfl ?_
                      refine OpsOk.consI rfl rfl rfl (.one rfl) rfl (fun hw31 => (VOk.g (VOk.mv (d := (S ((rd a1 x7_4).Value))) rfl rfl))) ?_
                      refine OpsOk.consI rfl rfl rfl (.one rfl) rfl (fun hw31 => (VOk.g (VOk.mv (d := (.v (.int .i64 x9_23))) rfl rfl))) ?_
                      refine OpsOk.consI rfl rfl rfl (.one rfl) rfl (fun hw31 => (GOk.fr (fr' := [(62, (S ((rd a1 x7_4).Value))), (63, (.v (.int .i64 x9_23)))]) ⟨DLe.of_eq (cT hw31).symm, DLe.of_eq (cT hw31).symm, trivial⟩ (VOk.g (VOk.indexStr (s := (rd a1 x7_4).Value) (i := x9_23) rfl Tryd.underlying9 rfl rfl (c32 hw31))))) ?_
                      refine OpsOk.consI rfl rfl rfl (.one rfl) rfl (fun hw31 => (GOk.fr (fr' := [(64, (.v (.int .u8 (bt ((rd a1 x7_4).Value) x9_23))))]) ⟨DLe.of_eq (cT hw31).symm, trivial⟩ (VOk.g (VOk.arith (op := .eql) (k := .u8) (a := (bt ((rd a1 x7_4).Value) x9_23)) (b := 92) rfl rfl rfl rfl)))) ?_
                      refine .cv (VOk.to (VOk.pickI (b := ((bt ((rd a1 x7_4).Value) x9_23) == 34)) (p := true) (q := ((bt ((rd a1 x7_4).Value) x9_23) == 92)) rfl rfl (fun hp33 => rfl) (fun hp33 => (cT (f_beq hp33)))) (pickOr ((bt ((rd a1 x7_4).Value) x9_23) == 34) ((bt ((rd a1 x7_4).Value) x9_23) == 92))) rfl rfl ?_
                      exact .done (.rf rfl rfl)
                    refine Ok.test (b := (((bt ((rd a1 x7_4).Value) x9_23) == 34) || ((bt ((rd a1 x7_4).Value) x9_23) == 92))) rfl (fun hb35 => ?_) (fun hb35 => ?_)
                    · replace H := ifT H hb35
                      obtain ⟨c34, H⟩ := assertE H
                      refine Ok.region (σ' := ⟨[(1, (L 2 e_api_Field a1)), (6, (S (x6_22 ++ ([92] : Str)))), (7, (.v (.int .i64 x7_4))), (8, (S ((rd a1 x7_4).Value))), (9, (.v (.int .i64 x9_23)))], []⟩) ?_ ?_
                      · refine .cv (VOk.mv (d := (S x6_22)) rfl rfl) rfl rfl ?_
                        refine .cv (VOk.cat (a := x6_22) (b := ([92] : Str)) rfl rfl rfl c34) rfl rfl ?_
                        refine .cv (VOk.asg (d := (S (x6_22 ++ ([92] : Str)))) rfl rfl) rfl rfl ?_
                        exact .done (.rf rfl rfl)
                      exact ⟨(x6_22 ++ ([92] : Str)), rfl, H⟩
                    · replace H := ifF H hb35
                      refine Ok.le (σ' := ⟨[(1, (L 2 e_api_Field a1)), (6, (S x6_22)), (7, (.v (.int .i64 x7_4))), (8, (S ((rd a1 x7_4).Value))), (9, (.v (.int .i64 x9_23)))], []⟩) (.rf rfl rfl) ?_
                      refine Ok.skip ?_
                      exact ⟨x6_22, rfl, H⟩
                  · rintro σ ⟨x6_27, rfl, H⟩
                    unfold watchbillref07_PrintType.j2 at H
                    obtain ⟨c28, H⟩ := assertE H
                    obtain ⟨c29, H⟩ := assertE H
                    refine Ok.region (σ' := ⟨[(1, (L 2 e_api_Field a1)), (6, (S (x6_27 ++ (sl ((rd a1 x7_4).Value) x9_23 (IntKind.i64.wrap (x9_23 + 1)))))), (7, (.v (.int .i64 x7_4))), (8, (S ((rd a1 x7_4).Value))), (9, (.v (.int .i64 x9_23)))], []⟩) ?_ ?_
                    · refine .cv (VOk.mv (d := (S x6_27)) rfl rfl) rfl rfl ?_
                      refine .cv (VOk.mv (d := (S ((rd a1 x7_4).Value))) rfl rfl) rfl rfl ?_
                      refine .cv (VOk.mv (d := (.v (.int .i64 x9_23))) rfl rfl) rfl rfl ?_
                      refine .cv (VOk.mv (d := (.v (.int .i64 x9_23))) rfl rfl) rfl rfl ?_
                      refine .cv (VOk.arith (op := .add) (k := .i64) (a := x9_23) (b := 1) rfl rfl rfl rfl) rfl rfl ?_
                      refine .cv (VOk.sliceStr (s := (rd a1 x7_4).Value) (l := x9_23) (h := (IntKind.i64.wrap (x9_23 + 1))) rfl Tryd.underlying9 rfl rfl rfl c28) rfl rfl ?_
                      refine .cv (VOk.cat (a := x6_27) (b := (sl ((rd a1 x7_4).Value) x9_23 (IntKind.i64.wrap (x9_23 + 1)))) rfl rfl rfl c29) rfl rfl ?_
                      refine .cv (VOk.asg (d := (S (x6_27 ++ (sl ((rd a1 x7_4).Value) x9_23 (IntKind.i64.wrap (x9_23 + 1)))))) rfl rfl) rfl rfl ?_
                      exact .done (.rf rfl rfl)
                    refine Ok.region (σ' := ⟨[(1, (L 2 e_api_Field a1)), (6, (S (x6_27 ++ (sl ((rd a1 x7_4).Value) x9_23 (IntKind.i64.wrap (x9_23 + 1)))))), (7, (.v (.int .i64 x7_4))), (8, (S ((rd a1 x7_4).Value))), (9, (.v (.int .i64 (IntKind.i64.wrap (x9_23 + 1)))))], []⟩) ?_ ?_
                    · refine .cv (VOk.mv (d := (.v (.int .i64 x9_23))) rfl rfl) rfl rfl ?_
                      refine .cv (VOk.arith (op := .add) (k := .i64) (a := x9_23) (b := 1) rfl rfl rfl rfl) rfl rfl ?_
                      refine .cv (VOk.asg (d := (.v (.int .i64 (IntKind.i64.wrap (x9_23 + 1))))) rfl rfl) rfl rfl ?_
                      exact .done (.rf rfl rfl)
                    exact ⟨m26, Nat.lt_succ_self m26, (x6_27 ++ (sl ((rd a1 x7_4).Value) x9_23 (IntKind.i64.wrap (x9_23 + 1)))), (IntKind.i64.wrap (x9_23 + 1)), rfl, H⟩
                · replace H := ifF H hb37
                  refine Ok.exit ?_
                  obtain ⟨c36, H⟩ := assertE H
                  refine Ok.region (σ' := ⟨[(1, (L 2 e_api_Field a1)), (6, (S (x6_22 ++ ([34] : Str)))), (7, (.v (.int .i64 x7_4)))], []⟩) ?_ ?_
                  · refine .cv (VOk.mv (d := (S x6_22)) rfl rfl) rfl rfl ?_
                    refine .cv (VOk.cat (a := x6_22) (b := ([34] : Str)) rfl rfl rfl c36) rfl rfl ?_
                    refine .cv (VOk.asg (d := (S (x6_22 ++ ([34] : Str)))) rfl rfl) rfl rfl ?_
                    exact .done (.rf rfl rfl)
                  refine Ok.region (σ' := ⟨[(1, (L 2 e_api_Field a1)), (6, (S (x6_22 ++ ([34] : Str)))), (7, (.v (.int .i64 (IntKind.i64.wrap (x7_4 + 1)))))], []⟩) ?_ ?_
                  · refine .cv (VOk.mv (d := (.v (.int .i64 x7_4))) rfl rfl) rfl rfl ?_
                    refine .cv (VOk.arith (op := .add) (k := .i64) (a := x7_4) (b := 1) rfl rfl rfl rfl) rfl rfl ?_
                    refine .cv (VOk.asg (d := (.v (.int .i64 (IntKind.i64.wrap (x7_4 + 1))))) rfl rfl) rfl rfl ?_
                    exact .done (.rf rfl rfl)
                  exact ⟨m7, Nat.lt_succ_self m7, (x6_22 ++ ([34] : Str)), (IntKind.i64.wrap (x7_4 + 1)), rfl, H⟩
      · replace H := ifF H hb41
        refine Ok.exit ?_
        refine Ok.seq ?_
        refine Ok.region (σ' := ⟨[(4, (S x6_3)), (5, (.v (.int .i64 0)))], []⟩) ?_ ?_
        · refine .cv (VOk.mv (d := (S x6_3)) rfl rfl) rfl rfl ?_
          refine .cv (VOk.asg (d := (S x6_3)) rfl rfl) rfl rfl ?_
          refine .cv (VOk.asg (d := (.v (.int .i64 0))) rfl rfl) rfl rfl ?_
          exact .done (.rf rfl rfl)
        refine Ok.ret ?_
        obtain rfl := Option.some.inj H
        exact ⟨.inl rfl, ⟨_, (.cons (.tmp rfl) (.cons (.tmp rfl) .nil)), rfl⟩, trivial⟩

/-! watchbill/watchbillref07.blank: function 63 -/
def watchbillref07_blank (a0 : Int) : Option Bool := some ((a0 == 32) || (a0 == 9))
theorem watchbillref07_blank.ok {a0 : Int} {r : Bool} (H : watchbillref07_blank a0 = some r) : Vx.Fn Tryd.prog 63 [(.v (.int .u8 a0))] [] (.v (.bool r)) [] := by
  unfold watchbillref07_blank at H
  refine Vx.Fn.of_okR Tryd.func63 rfl (Nat.le_of_ble_eq_true rfl) ?_
  refine Ok.seq ?_
  refine Ok.region (σ' := ⟨[(0, (.v (.int .u8 a0)))], []⟩) ?_ ?_
  · refine .cv (VOk.asg (d := (.v (.bool false))) rfl rfl) rfl rfl ?_
    exact .done (.rf rfl rfl)
  refine Ok.seq ?_
  refine Ok.region (σ' := ⟨[(2, (.v (.bool ((a0 == 32) || (a0 == 9)))))], []⟩) ?_ ?_
  · refine .cv (VOk.mv (d := (.v (.int .u8 a0))) rfl rfl) rfl rfl ?_
    refine .cv (VOk.arith (op := .eql) (k := .u8) (a := a0) (b := 32) rfl rfl rfl rfl) rfl rfl ?_
    refine .cv (VOk.mv (d := (.v (.bool (a0 == 32)))) rfl rfl) rfl rfl ?_
    refine OpsOk.consI rfl rfl rfl (.one rfl) rfl (fun hw1 => (VOk.g (VOk.mv (d := (.v (.int .u8 a0))) rfl rfl))) ?_
    refine OpsOk.consI rfl rfl rfl (.one rfl) rfl (fun hw1 => (GOk.fr (fr' := [(6, (.v (.int .u8 a0)))]) ⟨DLe.of_eq (cT hw1).symm, trivial⟩ (VOk.g (VOk.arith (op := .eql) (k := .u8) (a := a0) (b := 9) rfl rfl rfl rfl)))) ?_
    refine .cv (VOk.to (VOk.pickI (b := (a0 == 32)) (p := true) (q := (a0 == 9)) rfl rfl (fun hp2 => rfl) (fun hp2 => (cT (f_beq hp2)))) (pickOr (a0 == 32) (a0 == 9))) rfl rfl ?_
    refine .cv (VOk.asg (d := (.v (.bool ((a0 == 32) || (a0 == 9))))) rfl rfl) rfl rfl ?_
    exact .done (.rf rfl rfl)
  refine Ok.ret ?_
  obtain rfl := Option.some.inj H
  exact ⟨.inl rfl, ⟨_, (.cons (.tmp rfl) .nil), rfl⟩, trivial⟩

/-! watchbill/watchbillref07.skip: function 49 -/
def watchbillref07_skip.l0 (k : Nat) (a0 : Str) : Nat → Int → Option Int
  | 0, _ => none
  | m3 + 1, x1_1 => (if (((decide (x1_1 < (a0.length : Int))) == true) = true → (0 : Int) ≤ x1_1 ∧ x1_1 < (a0.length : Int)) then (((if ((decide (x1_1 < (a0.length : Int))) == true) = true then watchbillref07_blank (bt a0 x1_1) else some default)).bind fun (t6 : Bool) => (if ((decide (x1_1 < (a0.length : Int))) && t6) = true then watchbillref07_skip.l0 k a0 m3 (IntKind.i64.wrap (x1_1 + 1)) else some x1_1)) else none)
def watchbillref07_skip (k : Nat) (a0 : Str) (a1 : Int) : Option Int := watchbillref07_skip.l0 k a0 k a1
theorem watchbillref07_skip.ok {k : Nat} {a0 : Str} {a1 : Int} {r : Int} (H : watchbillref07_skip k a0 a1 = some r) : Vx.Fn Tryd.prog 49 [(S a0), (.v (.int .i64 a1))] [] (.v (.int .i64 r)) [] := by
  unfold watchbillref07_skip at H
  refine Vx.Fn.of_okR Tryd.func49 rfl (Nat.le_of_ble_eq_true rfl) ?_
  refine Ok.seq ?_
  refine Ok.region (σ' := ⟨[(0, (S a0)), (1, (.v (.int .i64 a1)))], []⟩) ?_ ?_
  · refine .cv (VOk.asg (d := (.v (.int .i64 0))) rfl rfl) rfl rfl ?_
    exact .done (.rf rfl rfl)
  refine Ok.seq ?_
  refine Ok.block ?_
  refine Ok.le (σ' := ⟨[(0, (S a0)), (1, (.v (.int .i64 a1)))], []⟩) (.rf rfl rfl) ?_
  refine Ok.loop (fun m3 σ => ∃ (x1_1 : Int), σ = ⟨[(0, (S a0)), (1, (.v (.int .i64 x1_1)))], []⟩ ∧ watchbillref07_skip.l0 k a0 m3 x1_1 = some r) k ⟨a1, rfl, H⟩ ?_
  rintro m3 σ ⟨x1_1, rfl, H⟩
  cases m3 with
  | zero => exact absurd H (by simp [watchbillref07_skip.l0])
  | succ m3 =>
    unfold watchbillref07_skip.l0 at H
    refine Ok.seq ?_
    refine Ok.seq ?_
    obtain ⟨c5, H⟩ := assertE H
    obtain ⟨t6, h7, H⟩ := bindE H
    refine Ok.region (σ' := ⟨[(0, (S a0)), (1, (.v (.int .i64 x1_1))), (14, (.v (.bool ((decide (x1_1 < (a0.length : Int))) && t6))))], []⟩) ?_ ?_
    · refine .cv (VOk.mv (d := (.v (.int .i64 x1_1))) rfl rfl) rfl rfl ?_
      refine .cv (VOk.mv (d := (S a0)) rfl rfl) rfl rfl ?_
      refine .cv (VOk.lenStr (s := a0) rfl Tryd.underlying9 rfl) rfl rfl ?_
      refine .cv (VOk.arith (op := .lss) (k := .i64) (a := x1_1) (b := (a0.length : Int)) rfl rfl rfl rfl) rfl rfl ?_
      refine .cv (VOk.mv (d := (.v (.bool (decide (x1_1 < (a0.length : Int)))))) rfl rfl) rfl rfl ?_
      refine OpsOk.consI rfl rfl rfl (.one rfl) rfl (fun hw4 => (VOk.g (VOk.mv (d := (S a0)) rfl rfl))) ?_
      refine OpsOk.consI rfl rfl rfl (.one rfl) rfl (fun hw4 => (VOk.g (VOk.mv (d := (.v (.int .i64 x1_1))) rfl rfl))) ?_
      refine OpsOk.consI rfl rfl rfl (.one rfl) rfl (fun hw4 => (GOk.fr (fr' := [(10, (S a0)), (11, (.v (.int .i64 x1_1)))]) ⟨DLe.of_eq (cT hw4).symm, DLe.of_eq (cT hw4).symm, trivial⟩ (VOk.g (VOk.indexStr (s := a0) (i := x1_1) rfl Tryd.underlying9 rfl rfl (c5 hw4))))) ?_
      refine OpsOk.consI rfl rfl rfl (.one rfl) rfl (fun hw4 => (GOk.fr (fr' := [(12, (.v (.int .u8 (bt a0 x1_1))))]) ⟨DLe.of_eq (cT hw4).symm, trivial⟩ (GOk.call rfl rfl cl63 rfl (watchbillref07_blank.ok (ifT h7 hw4)) rfl))) ?_
      refine .cv (VOk.to (VOk.pickI (b := (decide (x1_1 < (a0.length : Int)))) (p := t6) (q := false) rfl rfl (fun hp8 => (cT (t_beq hp8))) (fun hp8 => rfl)) (pickAnd (decide (x1_1 < (a0.length : Int))) t6)) rfl rfl ?_
      exact .done (.rf rfl rfl)
    refine Ok.test (b := ((decide (x1_1 < (a0.length : Int))) && t6)) rfl (fun hb9 => ?_) (fun hb9 => ?_)
    · replace H := ifT H hb9
      refine Ok.skip ?_
      refine Ok.block ?_
      refine Ok.region (σ' := ⟨[(0, (S a0)), (1, (.v (.int .i64 (IntKind.i64.wrap (x1_1 + 1)))))], []⟩) ?_ ?_
      · refine .cv (VOk.mv (d := (.v (.int .i64 x1_1))) rfl rfl) rfl rfl ?_
        refine .cv (VOk.arith (op := .add) (k := .i64) (a := x1_1) (b := 1) rfl rfl rfl rfl) rfl rfl ?_
        refine .cv (VOk.asg (d := (.v (.int .i64 (IntKind.i64.wrap (x1_1 + 1))))) rfl rfl) rfl rfl ?_
        exact .done (.rf rfl rfl)
      exact ⟨m3, Nat.lt_succ_self m3, (IntKind.i64.wrap (x1_1 + 1)), rfl, H⟩
    · replace H := ifF H hb9
      refine Ok.exit ?_
      refine Ok.seq ?_
      refine Ok.region (σ' := ⟨[(4, (.v (.int .i64 x1_1)))], []⟩) ?_ ?_
      · refine .cv (VOk.mv (d := (.v (.int .i64 x1_1))) rfl rfl) rfl rfl ?_
        refine .cv (VOk.asg (d := (.v (.int .i64 x1_1))) rfl rfl) rfl rfl ?_
        exact .done (.rf rfl rfl)
      refine Ok.ret ?_
      obtain rfl := Option.some.inj H
      exact ⟨.inl rfl, ⟨_, (.cons (.tmp rfl) .nil), rfl⟩, trivial⟩

/-! watchbill/watchbillref07.run: function 50 -/
def watchbillref07_run.l0 (k : Nat) (a0 : Str) : Nat → Int → Option Int
  | 0, _ => none
  | m3 + 1, x1_1 => (if (((decide (x1_1 < (a0.length : Int))) == true) = true → (0 : Int) ≤ x1_1 ∧ x1_1 < (a0.length : Int)) then (((if ((decide (x1_1 < (a0.length : Int))) == true) = true then watchbillref07_tokenByte k (bt a0 x1_1) else some default)).bind fun (t6 : Bool) => (if ((decide (x1_1 < (a0.length : Int))) && t6) = true then watchbillref07_run.l0 k a0 m3 (IntKind.i64.wrap (x1_1 + 1)) else some x1_1)) else none)
def watchbillref07_run (k : Nat) (a0 : Str) (a1 : Int) : Option Int := watchbillref07_run.l0 k a0 k a1
theorem watchbillref07_run.ok {k : Nat} {a0 : Str} {a1 : Int} {r : Int} (H : watchbillref07_run k a0 a1 = some r) : Vx.Fn Tryd.prog 50 [(S a0), (.v (.int .i64 a1))] [] (.v (.int .i64 r)) [] := by
  unfold watchbillref07_run at H
  refine Vx.Fn.of_okR Tryd.func50 rfl (Nat.le_of_ble_eq_true rfl) ?_
  refine Ok.seq ?_
  refine Ok.region (σ' := ⟨[(0, (S a0)), (1, (.v (.int .i64 a1)))], []⟩) ?_ ?_
  · refine .cv (VOk.asg (d := (.v (.int .i64 0))) rfl rfl) rfl rfl ?_
    exact .done (.rf rfl rfl)
  refine Ok.seq ?_
  refine Ok.block ?_
  refine Ok.le (σ' := ⟨[(0, (S a0)), (1, (.v (.int .i64 a1)))], []⟩) (.rf rfl rfl) ?_
  refine Ok.loop (fun m3 σ => ∃ (x1_1 : Int), σ = ⟨[(0, (S a0)), (1, (.v (.int .i64 x1_1)))], []⟩ ∧ watchbillref07_run.l0 k a0 m3 x1_1 = some r) k ⟨a1, rfl, H⟩ ?_
  rintro m3 σ ⟨x1_1, rfl, H⟩
  cases m3 with
  | zero => exact absurd H (by simp [watchbillref07_run.l0])
  | succ m3 =>
    unfold watchbillref07_run.l0 at H
    refine Ok.seq ?_
    refine Ok.seq ?_
    obtain ⟨c5, H⟩ := assertE H
    obtain ⟨t6, h7, H⟩ := bindE H
    refine Ok.region (σ' := ⟨[(0, (S a0)), (1, (.v (.int .i64 x1_1))), (14, (.v (.bool ((decide (x1_1 < (a0.length : Int))) && t6))))], []⟩) ?_ ?_
    · refine .cv (VOk.mv (d := (.v (.int .i64 x1_1))) rfl rfl) rfl rfl ?_
      refine .cv (VOk.mv (d := (S a0)) rfl rfl) rfl rfl ?_
      refine .cv (VOk.lenStr (s := a0) rfl Tryd.underlying9 rfl) rfl rfl ?_
      refine .cv (VOk.arith (op := .lss) (k := .i64) (a := x1_1) (b := (a0.length : Int)) rfl rfl rfl rfl) rfl rfl ?_
      refine .cv (VOk.mv (d := (.v (.bool (decide (x1_1 < (a0.length : Int)))))) rfl rfl) rfl rfl ?_
      refine OpsOk.consI rfl rfl rfl (.one rfl) rfl (fun hw4 => (VOk.g (VOk.mv (d := (S a0)) rfl rfl))) ?_
      refine OpsOk.consI rfl rfl rfl (.one rfl) rfl (fun hw4 => (VOk.g (VOk.mv (d := (.v (.int .i64 x1_1))) rfl rfl))) ?_
      refine OpsOk.consI rfl rfl rfl (.one rfl) rfl (fun hw4 => (GOk.fr (fr' := [(10, (S a0)), (11, (.v (.int .i64 x1_1)))]) ⟨DLe.of_eq (cT hw4).symm, DLe.of_eq (cT hw4).symm, trivial⟩ (VOk.g (VOk.indexStr (s := a0) (i := x1_1) rfl Tryd.underlying9 rfl rfl (c5 hw4))))) ?_
      refine OpsOk.consI rfl rfl rfl (.one rfl) rfl (fun hw4 => (GOk.fr (fr' := [(12, (.v (.int .u8 (bt a0 x1_1))))]) ⟨DLe.of_eq (cT hw4).symm, trivial⟩ (GOk.call rfl rfl cl39 rfl (watchbillref07_tokenByte.ok (ifT h7 hw4)) rfl))) ?_
      refine .cv (VOk.to (VOk.pickI (b := (decide (x1_1 < (a0.length : Int)))) (p := t6) (q := false) rfl rfl (fun hp8 => (cT (t_beq hp8))) (fun hp8 => rfl)) (pickAnd (decide (x1_1 < (a0.length : Int))) t6)) rfl rfl ?_
      exact .done (.rf rfl rfl)
    refine Ok.test (b := ((decide (x1_1 < (a0.length : Int))) && t6)) rfl (fun hb9 => ?_) (fun hb9 => ?_)
    · replace H := ifT H hb9
      refine Ok.skip ?_
      refine Ok.block ?_
      refine Ok.region (σ' := ⟨[(0, (S a0)), (1, (.v (.int .i64 (IntKind.i64.wrap (x1_1 + 1)))))], []⟩) ?_ ?_
      · refine .cv (VOk.mv (d := (.v (.int .i64 x1_1))) rfl rfl) rfl rfl ?_
        refine .cv (VOk.arith (op := .add) (k := .i64) (a := x1_1) (b := 1) rfl rfl rfl rfl) rfl rfl ?_
        refine .cv (VOk.asg (d := (.v (.int .i64 (IntKind.i64.wrap (x1_1 + 1))))) rfl rfl) rfl rfl ?_
        exact .done (.rf rfl rfl)
      exact ⟨m3, Nat.lt_succ_self m3, (IntKind.i64.wrap (x1_1 + 1)), rfl, H⟩
    · replace H := ifF H hb9
      refine Ok.exit ?_
      refine Ok.seq ?_
      refine Ok.region (σ' := ⟨[(4, (.v (.int .i64 x1_1)))], []⟩) ?_ ?_
      · refine .cv (VOk.mv (d := (.v (.int .i64 x1_1))) rfl rfl) rfl rfl ?_
        refine .cv (VOk.asg (d := (.v (.int .i64 x1_1))) rfl rfl) rfl rfl ?_
        exact .done (.rf rfl rfl)
      refine Ok.ret ?_
      obtain rfl := Option.some.inj H
      exact ⟨.inl rfl, ⟨_, (.cons (.tmp rfl) .nil), rfl⟩, trivial⟩

/-! watchbill/watchbillref07.Lower: function 26 -/
def watchbillref07_Lower.j1 (c0 : List Int → Int → Option Str) (a0 : Str) (y3_2 : List Int) (x4_1 : Int) (x5_7 : Int) : Option Str := (if (y3_2.length + ([x5_7] : List Int).length) * 1 ≤ 140737488355328 then c0 (y3_2 ++ ([x5_7] : List Int)) (IntKind.i64.wrap (x4_1 + 1)) else none)
def watchbillref07_Lower.l0 (k : Nat) (a0 : Str) : Nat → List Int → Int → Option Str
  | 0, _, _ => none
  | m5 + 1, y3_2, x4_1 => (if (decide (x4_1 < (a0.length : Int))) = true then (if (0 : Int) ≤ x4_1 ∧ x4_1 < (a0.length : Int) then (if ((decide ((bt a0 x4_1) ≥ 65)) && (decide ((bt a0 x4_1) ≤ 90))) = true then watchbillref07_Lower.j1 (watchbillref07_Lower.l0 k a0 m5) a0 y3_2 x4_1 (IntKind.u8.wrap ((bt a0 x4_1) + 32)) else watchbillref07_Lower.j1 (watchbillref07_Lower.l0 k a0 m5) a0 y3_2 x4_1 (bt a0 x4_1)) else none) else some (strOfBytes y3_2))
def watchbillref07_Lower (k : Nat) (a0 : Str) : Option Str := watchbillref07_Lower.l0 k a0 k ([] : List Int) 0
theorem watchbillref07_Lower.ok {k : Nat} {a0 : Str} {r : Str} (H : watchbillref07_Lower k a0 = some r) : Vx.Fn Tryd.prog 26 [(S a0)] [] (S r) [] := by
  unfold watchbillref07_Lower at H
  refine Vx.Fn.of_okR Tryd.func26 rfl (Nat.le_of_ble_eq_true rfl) ?_
  refine Ok.seq ?_
  refine Ok.region (σ' := ⟨[(0, (S a0))], []⟩) ?_ ?_
  · refine .cv (VOk.asg (d := (S ([] : Str))) rfl rfl) rfl rfl ?_
    exact .done (.rf rfl rfl)
  refine Ok.seq ?_
  refine Ok.region (σ' := ⟨[(0, (S a0)), (3, (.sref 3))], [(3, (.rows true 5 1 (([] : List Int).map (eI .u8))))]⟩) ?_ ?_
  · refine OpsOk.cons rfl (.nilT 3 5 1 (.inl rfl) rfl rfl) ?_
    exact .done (.rf rfl rfl)
  refine Ok.seq ?_
  refine Ok.seq ?_
  refine Ok.region (σ' := ⟨[(0, (S a0)), (3, (.sref 3)), (4, (.v (.int .i64 0)))], [(3, (.rows true 5 1 (([] : List Int).map (eI .u8))))]⟩) ?_ ?_
  · refine .cv (VOk.asg (d := (.v (.int .i64 0))) rfl rfl) rfl rfl ?_
    exact .done (.rf rfl rfl)
  refine Ok.block ?_
  refine Ok.le (σ' := ⟨[(0, (S a0)), (3, (.sref 3)), (4, (.v (.int .i64 0)))], [(3, (.rows true 5 1 (([] : List Int).map (eI .u8))))]⟩) (.rf rfl rfl) ?_
  refine Ok.loop (fun m5 σ => ∃ (y3_2 : List Int) (x4_1 : Int), σ = ⟨[(0, (S a0)), (3, (.sref 3)), (4, (.v (.int .i64 x4_1)))], [(3, (.rows true 5 1 (y3_2.map (eI .u8))))]⟩ ∧ watchbillref07_Lower.l0 k a0 m5 y3_2 x4_1 = some r) k ⟨([] : List Int), 0, rfl, H⟩ ?_
  rintro m5 σ ⟨y3_2, x4_1, rfl, H⟩
  cases m5 with
  | zero => exact absurd H (by simp [watchbillref07_Lower.l0])
  | succ m5 =>
    unfold watchbillref07_Lower.l0 at H
    refine Ok.seq ?_
    refine Ok.seq ?_
    refine Ok.region (σ' := ⟨[(0, (S a0)), (3, (.sref 3)), (4, (.v (.int .i64 x4_1))), (9, (.v (.bool (decide (x4_1 < (a0.length : Int))))))], [(3, (.rows true 5 1 (y3_2.map (eI .u8))))]⟩) ?_ ?_
    · refine .cv (VOk.mv (d := (.v (.int .i64 x4_1))) rfl rfl) rfl rfl ?_
      refine .cv (VOk.mv (d := (S a0)) rfl rfl) rfl rfl ?_
      refine .cv (VOk.lenStr (s := a0) rfl Tryd.underlying9 rfl) rfl rfl ?_
      refine .cv (VOk.arith (op := .lss) (k := .i64) (a := x4_1) (b := (a0.length : Int)) rfl rfl rfl rfl) rfl rfl ?_
      exact .done (.rf rfl rfl)
    refine Ok.test (b := (decide (x4_1 < (a0.length : Int)))) rfl (fun hb12 => ?_) (fun hb12 => ?_)
    · replace H := ifT H hb12
      refine Ok.skip ?_
      refine Ok.seq ?_
      refine Ok.block ?_
      refine Ok.seq ?_
      obtain ⟨c6, H⟩ := assertE H
      refine Ok.region (σ' := ⟨[(0, (S a0)), (3, (.sref 3)), (4, (.v (.int .i64 x4_1))), (5, (.v (.int .u8 (bt a0 x4_1))))], [(3, (.rows true 5 1 (y3_2.map (eI .u8))))]⟩) ?_ ?_
      · refine .cv (VOk.mv (d := (S a0)) rfl rfl) rfl rfl ?_
        refine .cv (VOk.mv (d := (.v (.int .i64 x4_1))) rfl rfl) rfl rfl ?_
        refine .cv (VOk.indexStr (s := a0) (i := x4_1) rfl Tryd.underlying9 rfl rfl c6) rfl rfl ?_
        refine .cv (VOk.asg (d := (.v (.int .u8 (bt a0 x4_1)))) rfl rfl) rfl rfl ?_
        exact .done (.rf rfl rfl)
      refine Ok.meet (fun σ => ∃ (x5_7 : Int), σ = ⟨[(0, (S a0)), (3, (.sref 3)), (4, (.v (.int .i64 x4_1))), (5, (.v (.int .u8 x5_7)))], [(3, (.rows true 5 1 (y3_2.map (eI .u8))))]⟩ ∧ watchbillref07_Lower.j1 (watchbillref07_Lower.l0 k a0 m5) a0 y3_2 x4_1 x5_7 = some r) ?_ ?_
      · refine Ok.seq ?_
        refine Ok.region (σ' := ⟨[(0, (S a0)), (3, (.sref 3)), (4, (.v (.int .i64 x4_1))), (5, (.v (.int .u8 (bt a0 x4_1)))), (20, (.v (.bool ((decide ((bt a0 x4_1) ≥ 65)) && (decide ((bt a0 x4_1) ≤ 90))))))], [(3, (.rows true 5 1 (y3_2.map (eI .u8))))]⟩) ?_ ?_
        · refine .cv (VOk.mv (d := (.v (.int .u8 (bt a0 x4_1)))) rfl rfl) rfl rfl ?_
          refine .cv (VOk.arith (op := .geq) (k := .u8) (a := (bt a0 x4_1)) (b := 65) rfl rfl rfl rfl) rfl rfl ?_
          refine .cv (VOk.mv (d := (.v (.bool (decide ((bt a0 x4_1) ≥ 65))))) rfl rfl) rfl rfl ?_
          refine OpsOk.consI rfl rfl rfl (.one rfl) rfl (fun hw9 => (VOk.g (VOk.mv (d := (.v (.int .u8 (bt a0 x4_1)))) rfl rfl))) ?_
          refine OpsOk.consI rfl rfl rfl (.one rfl) rfl (fun hw9 => (GOk.fr (fr' := [(18, (.v (.int .u8 (bt a0 x4_1))))]) ⟨DLe.of_eq (cT hw9).symm, trivial⟩ (VOk.g (VOk.arith (op := .leq) (k := .u8) (a := (bt a0 x4_1)) (b := 90) rfl rfl rfl rfl)))) ?_
          refine .cv (VOk.to (VOk.pickI (b := (decide ((bt a0 x4_1) ≥ 65))) (p := (decide ((bt a0 x4_1) ≤ 90))) (q := false) rfl rfl (fun hp10 => (cT (t_beq hp10))) (fun hp10 => rfl)) (pickAnd (decide ((bt a0 x4_1) ≥ 65)) (decide ((bt a0 x4_1) ≤ 90)))) rfl rfl ?_
          exact .done (.rf rfl rfl)
        refine Ok.test (b := ((decide ((bt a0 x4_1) ≥ 65)) && (decide ((bt a0 x4_1) ≤ 90)))) rfl (fun hb11 => ?_) (fun hb11 => ?_)
        · replace H := ifT H hb11
          refine Ok.region (σ' := ⟨[(0, (S a0)), (3, (.sref 3)), (4, (.v (.int .i64 x4_1))), (5, (.v (.int .u8 (IntKind.u8.wrap ((bt a0 x4_1) + 32)))))], [(3, (.rows true 5 1 (y3_2.map (eI .u8))))]⟩) ?_ ?_
          · refine .cv (VOk.mv (d := (.v (.int .u8 (bt a0 x4_1)))) rfl rfl) rfl rfl ?_
            refine .cv (VOk.arith (op := .add) (k := .u8) (a := (bt a0 x4_1)) (b := 32) rfl rfl rfl rfl) rfl rfl ?_
            refine .cv (VOk.asg (d := (.v (.int .u8 (IntKind.u8.wrap ((bt a0 x4_1) + 32))))) rfl rfl) rfl rfl ?_
            exact .done (.rf rfl rfl)
          exact ⟨(IntKind.u8.wrap ((bt a0 x4_1) + 32)), rfl, H⟩
        · replace H := ifF H hb11
          refine Ok.le (σ' := ⟨[(0, (S a0)), (3, (.sref 3)), (4, (.v (.int .i64 x4_1))), (5, (.v (.int .u8 (bt a0 x4_1))))], [(3, (.rows true 5 1 (y3_2.map (eI .u8))))]⟩) (.rf rfl rfl) ?_
          refine Ok.skip ?_
          exact ⟨(bt a0 x4_1), rfl, H⟩
      · rintro σ ⟨x5_7, rfl, H⟩
        unfold watchbillref07_Lower.j1 at H
        obtain ⟨c8, H⟩ := assertE H
        refine Ok.region (σ' := ⟨[(0, (S a0)), (3, (.sref 3)), (4, (.v (.int .i64 x4_1)))], [(3, (.rows true 5 1 ((y3_2 ++ ([x5_7] : List Int)).map (eI .u8))))]⟩) ?_ ?_
        · refine .cv (VOk.mv (d := (.sref 3)) rfl rfl) rfl rfl ?_
          refine .cv (VOk.mv (d := (.v (.int .u8 x5_7))) rfl rfl) rfl rfl ?_
          refine .cg (GOk.to (d' := (L 1 (eI .u8) ([x5_7] : List Int))) (GOk.lit rfl Tryd.underlying78 sz5 zs5 rfl rfl rfl rfl) rfl) rfl rfl ?_
          refine OpsOk.cons rfl (OpOk.appendL (e := (eI .u8)) (xs := y3_2) (ys := ([x5_7] : List Int)) rfl Tryd.underlying78 elt5 rfl rfl rfl c8 rfl) ?_
          refine .cv (VOk.asg (d := (.sref 3)) rfl rfl) rfl rfl ?_
          exact .done (.rf rfl rfl)
        refine Ok.region (σ' := ⟨[(0, (S a0)), (3, (.sref 3)), (4, (.v (.int .i64 (IntKind.i64.wrap (x4_1 + 1)))))], [(3, (.rows true 5 1 ((y3_2 ++ ([x5_7] : List Int)).map (eI .u8))))]⟩) ?_ ?_
        · refine .cv (VOk.mv (d := (.v (.int .i64 x4_1))) rfl rfl) rfl rfl ?_
          refine .cv (VOk.arith (op := .add) (k := .i64) (a := x4_1) (b := 1) rfl rfl rfl rfl) rfl rfl ?_
          refine .cv (VOk.asg (d := (.v (.int .i64 (IntKind.i64.wrap (x4_1 + 1))))) rfl rfl) rfl rfl ?_
          exact .done (.rf rfl rfl)
        exact ⟨m5, Nat.lt_succ_self m5, (y3_2 ++ ([x5_7] : List Int)), (IntKind.i64.wrap (x4_1 + 1)), rfl, H⟩
    · replace H := ifF H hb12
      refine Ok.exit ?_
      refine Ok.seq ?_
      refine Ok.region (σ' := ⟨[(2, (S (strOfBytes y3_2)))], []⟩) ?_ ?_
      · refine .cv (VOk.mv (d := (.sref 3)) rfl rfl) rfl rfl ?_
        refine .cv (VOk.bytesStrT (xs := y3_2) rfl Tryd.underlying78 Tryd.underlying5 Tryd.underlying9 rfl rfl) rfl rfl ?_
        refine .cv (VOk.asg (d := (S (strOfBytes y3_2))) rfl rfl) rfl rfl ?_
        exact .done (.rf rfl rfl)
      refine Ok.ret ?_
      obtain rfl := Option.some.inj H
      exact ⟨.inl rfl, ⟨_, (.cons (.tmp rfl) .nil), rfl⟩, trivial⟩

/-! watchbill/watchbillref07.value: function 51 -/
def watchbillref07_value.j1 (c0 : Str → Int → Option (Str × Int × Bool)) (a0 : Str) (x8_7 : Str) (x9_13 : Int) : Option (Str × Int × Bool) := (if (0 : Int) ≤ x9_13 ∧ x9_13 ≤ (IntKind.i64.wrap (x9_13 + 1)) ∧ (IntKind.i64.wrap (x9_13 + 1)) ≤ (a0.length : Int) then (if x8_7.length + (sl a0 x9_13 (IntKind.i64.wrap (x9_13 + 1))).length ≤ 9223372036854775807 then c0 (x8_7 ++ (sl a0 x9_13 (IntKind.i64.wrap (x9_13 + 1)))) (IntKind.i64.wrap (x9_13 + 1)) else none) else none)
def watchbillref07_value.l0 (k : Nat) (a0 : Str) : Nat → Str → Int → Option (Str × Int × Bool)
  | 0, _, _ => none
  | m11 + 1, x8_7, x9_8 => (if (decide (x9_8 < (a0.length : Int))) = true then (if (0 : Int) ≤ x9_8 ∧ x9_8 < (a0.length : Int) then (if ((bt a0 x9_8) == 34) = true then some (x8_7, (IntKind.i64.wrap (x9_8 + 1)), true) else (if ((bt a0 x9_8) == 92) = true then (if ((((IntKind.i64.wrap (x9_8 + 1)) == (a0.length : Int)) == false) = true → (0 : Int) ≤ (IntKind.i64.wrap (x9_8 + 1)) ∧ (IntKind.i64.wrap (x9_8 + 1)) < (a0.length : Int)) then (if (((((IntKind.i64.wrap (x9_8 + 1)) == (a0.length : Int)) == false) && (((bt a0 (IntKind.i64.wrap (x9_8 + 1))) != 34) == true)) = true → (0 : Int) ≤ (IntKind.i64.wrap (x9_8 + 1)) ∧ (IntKind.i64.wrap (x9_8 + 1)) < (a0.length : Int)) then (if (((IntKind.i64.wrap (x9_8 + 1)) == (a0.length : Int)) || (((bt a0 (IntKind.i64.wrap (x9_8 + 1))) != 34) && ((bt a0 (IntKind.i64.wrap (x9_8 + 1))) != 92))) = true then some (([] : Str), 0, false) else watchbillref07_value.j1 (watchbillref07_value.l0 k a0 m11) a0 x8_7 (IntKind.i64.wrap (x9_8 + 1))) else none) else none) else (if (0 : Int) ≤ x9_8 ∧ x9_8 ≤ (IntKind.i64.wrap (x9_8 + 1)) ∧ (IntKind.i64.wrap (x9_8 + 1)) ≤ (a0.length : Int) then ((watchbillref07_Plain k (sl a0 x9_8 (IntKind.i64.wrap (x9_8 + 1)))).bind fun (t24 : Bool) => (if (!t24) = true then some (([] : Str), 0, false) else watchbillref07_value.j1 (watchbillref07_value.l0 k a0 m11) a0 x8_7 x9_8)) else none))) else none) else some (([] : Str), 0, false))
def watchbillref07_value (k : Nat) (a0 : Str) (a1 : Int) : Option (Str × Int × Bool) := (if (((decide (a1 < (a0.length : Int))) == true) = true → (0 : Int) ≤ a1 ∧ a1 < (a0.length : Int)) then (if ((decide (a1 < (a0.length : Int))) && ((bt a0 a1) != 34)) = true then ((watchbillref07_run k a0 a1).bind fun (t4 : Int) => (if (0 : Int) ≤ a1 ∧ a1 ≤ t4 ∧ t4 ≤ (a0.length : Int) then some ((sl a0 a1 t4), t4, (decide (t4 > a1))) else none)) else watchbillref07_value.l0 k a0 k ([] : Str) (IntKind.i64.wrap (a1 + 1))) else none)
theorem watchbillref07_value.ok {k : Nat} {a0 : Str} {a1 : Int} {r : Str × Int × Bool} (H : watchbillref07_value k a0 a1 = some r) : Vx.Fn Tryd.prog 51 [(S a0), (.v (.int .i64 a1))] [] (.tup [(S r.1), (.v (.int .i64 r.2.1)), (.v (.bool r.2.2))]) [] := by
  unfold watchbillref07_value at H
  refine Vx.Fn.of_okR Tryd.func51 rfl (Nat.le_of_ble_eq_true rfl) ?_
  refine Ok.seq ?_
  refine Ok.region (σ' := ⟨[(0, (S a0)), (1, (.v (.int .i64 a1)))], []⟩) ?_ ?_
  · refine .cv (VOk.asg (d := (S ([] : Str))) rfl rfl) rfl rfl ?_
    refine .cv (VOk.asg (d := (.v (.int .i64 0))) rfl rfl) rfl rfl ?_
    refine .cv (VOk.asg (d := (.v (.bool false))) rfl rfl) rfl rfl ?_
    exact .done (.rf rfl rfl)
  refine Ok.seq ?_
  refine Ok.seq ?_
  obtain ⟨c2, H⟩ := assertE H
  refine Ok.region (σ' := ⟨[(0, (S a0)), (1, (.v (.int .i64 a1))), (20, (.v (.bool ((decide (a1 < (a0.length : Int))) && ((bt a0 a1) != 34)))))], []⟩) ?_ ?_
  · refine .cv (VOk.mv (d := (.v (.int .i64 a1))) rfl rfl) rfl rfl ?_
    refine .cv (VOk.mv (d := (S a0)) rfl rfl) rfl rfl ?_
    refine .cv (VOk.lenStr (s := a0) rfl Tryd.underlying9 rfl) rfl rfl ?_
    refine .cv (VOk.arith (op := .lss) (k := .i64) (a := a1) (b := (a0.length : Int)) rfl rfl rfl rfl) rfl rfl ?_
    refine .cv (VOk.mv (d := (.v (.bool (decide (a1 < (a0.length : Int)))))) rfl rfl) rfl rfl ?_
    refine OpsOk.consI rfl rfl rfl (.one rfl) rfl (fun hw1 => (VOk.g (VOk.mv (d := (S a0)) rfl rfl))) ?_
    refine OpsOk.consI rfl rfl rfl (.one rfl) rfl (fun hw1 => (VOk.g (VOk.mv (d := (.v (.int .i64 a1))) rfl rfl))) ?_
    refine OpsOk.consI rfl rfl rfl (.one rfl) rfl (fun hw1 => (GOk.fr (fr' := [(16, (S a0)), (17, (.v (.int .i64 a1)))]) ⟨DLe.of_eq (cT hw1).symm, DLe.of_eq (cT hw1).symm, trivial⟩ (VOk.g (VOk.indexStr (s := a0) (i := a1) rfl Tryd.underlying9 rfl rfl (c2 hw1))))) ?_
    refine OpsOk.consI rfl rfl rfl (.one rfl) rfl (fun hw1 => (GOk.fr (fr' := [(18, (.v (.int .u8 (bt a0 a1))))]) ⟨DLe.of_eq (cT hw1).symm, trivial⟩ (VOk.g (VOk.arith (op := .neq) (k := .u8) (a := (bt a0 a1)) (b := 34) rfl rfl rfl rfl)))) ?_
    refine .cv (VOk.to (VOk.pickI (b := (decide (a1 < (a0.length : Int)))) (p := ((bt a0 a1) != 34)) (q := false) rfl rfl (fun hp3 => (cT (t_beq hp3))) (fun hp3 => rfl)) (pickAnd (decide (a1 < (a0.length : Int))) ((bt a0 a1) != 34))) rfl rfl ?_
    exact .done (.rf rfl rfl)
  refine Ok.test (b := ((decide (a1 < (a0.length : Int))) && ((bt a0 a1) != 34))) rfl (fun hb30 => ?_) (fun hb30 => ?_)
  · replace H := ifT H hb30
    refine Ok.seq ?_
    obtain ⟨t4, h5, H⟩ := bindE H
    refine Ok.region (σ' := ⟨[(0, (S a0)), (1, (.v (.int .i64 a1))), (7, (.v (.int .i64 t4)))], []⟩) ?_ ?_
    · refine .cv (VOk.mv (d := (S a0)) rfl rfl) rfl rfl ?_
      refine .cv (VOk.mv (d := (.v (.int .i64 a1))) rfl rfl) rfl rfl ?_
      refine .cg (GOk.call rfl rfl cl50 rfl (watchbillref07_run.ok h5) rfl) rfl rfl ?_
      refine .cv (VOk.asg (d := (.v (.int .i64 t4))) rfl rfl) rfl rfl ?_
      exact .done (.rf rfl rfl)
    refine Ok.seq ?_
    obtain ⟨c6, H⟩ := assertE H
    refine Ok.region (σ' := ⟨[(4, (S (sl a0 a1 t4))), (5, (.v (.int .i64 t4))), (6, (.v (.bool (decide (t4 > a1)))))], []⟩) ?_ ?_
    · refine .cv (VOk.mv (d := (S a0)) rfl rfl) rfl rfl ?_
      refine .cv (VOk.mv (d := (.v (.int .i64 a1))) rfl rfl) rfl rfl ?_
      refine .cv (VOk.mv (d := (.v (.int .i64 t4))) rfl rfl) rfl rfl ?_
      refine .cv (VOk.sliceStr (s := a0) (l := a1) (h := t4) rfl Tryd.underlying9 rfl rfl rfl c6) rfl rfl ?_
      refine .cv (VOk.mv (d := (.v (.int .i64 t4))) rfl rfl) rfl rfl ?_
      refine .cv (VOk.mv (d := (.v (.int .i64 t4))) rfl rfl) rfl rfl ?_
      refine .cv (VOk.mv (d := (.v (.int .i64 a1))) rfl rfl) rfl rfl ?_
      refine .cv (VOk.arith (op := .gtr) (k := .i64) (a := t4) (b := a1) rfl rfl rfl rfl) rfl rfl ?_
      refine .cv (VOk.asg (d := (S (sl a0 a1 t4))) rfl rfl) rfl rfl ?_
      refine .cv (VOk.asg (d := (.v (.int .i64 t4))) rfl rfl) rfl rfl ?_
      refine .cv (VOk.asg (d := (.v (.bool (decide (t4 > a1))))) rfl rfl) rfl rfl ?_
      exact .done (.rf rfl rfl)
    refine Ok.ret ?_
    obtain rfl := Option.some.inj H
    exact ⟨.inl rfl, ⟨_, (.cons (.tmp rfl) (.cons (.tmp rfl) (.cons (.tmp rfl) .nil))), rfl⟩, trivial⟩
  · replace H := ifF H hb30
    refine Ok.skip ?_
    refine Ok.seq ?_
    refine Ok.region (σ' := ⟨[(0, (S a0)), (1, (.v (.int .i64 a1))), (8, (S ([] : Str)))], []⟩) ?_ ?_
    · refine .cv (VOk.asg (d := (S ([] : Str))) rfl rfl) rfl rfl ?_
      exact .done (.rf rfl rfl)
    refine Ok.seq ?_
    refine Ok.seq ?_
    refine Ok.region (σ' := ⟨[(0, (S a0)), (8, (S ([] : Str))), (9, (.v (.int .i64 (IntKind.i64.wrap (a1 + 1)))))], []⟩) ?_ ?_
    · refine .cv (VOk.mv (d := (.v (.int .i64 a1))) rfl rfl) rfl rfl ?_
      refine .cv (VOk.arith (op := .add) (k := .i64) (a := a1) (b := 1) rfl rfl rfl rfl) rfl rfl ?_
      refine .cv (VOk.asg (d := (.v (.int .i64 (IntKind.i64.wrap (a1 + 1))))) rfl rfl) rfl rfl ?_
      exact .done (.rf rfl rfl)
    refine Ok.block ?_
    refine Ok.le (σ' := ⟨[(0, (S a0)), (8, (S ([] : Str))), (9, (.v (.int .i64 (IntKind.i64.wrap (a1 + 1)))))], []⟩) (.rf rfl rfl) ?_
    refine Ok.loop (fun m11 σ => ∃ (x8_7 : Str) (x9_8 : Int), σ = ⟨[(0, (S a0)), (8, (S x8_7)), (9, (.v (.int .i64 x9_8)))], []⟩ ∧ watchbillref07_value.l0 k a0 m11 x8_7 x9_8 = some r) k ⟨([] : Str), (IntKind.i64.wrap (a1 + 1)), rfl, H⟩ ?_
    rintro m11 σ ⟨x8_7, x9_8, rfl, H⟩
    cases m11 with
    | zero => exact absurd H (by simp [watchbillref07_value.l0])
    | succ m11 =>
      unfold watchbillref07_value.l0 at H
      refine Ok.seq ?_
      refine Ok.seq ?_
      refine Ok.region (σ' := ⟨[(0, (S a0)), (8, (S x8_7)), (9, (.v (.int .i64 x9_8))), (37, (.v (.bool (decide (x9_8 < (a0.length : Int))))))], []⟩) ?_ ?_
      · refine .cv (VOk.mv (d := (.v (.int .i64 x9_8))) rfl rfl) rfl rfl ?_
        refine .cv (VOk.mv (d := (S a0)) rfl rfl) rfl rfl ?_
        refine .cv (VOk.lenStr (s := a0) rfl Tryd.underlying9 rfl) rfl rfl ?_
        refine .cv (VOk.arith (op := .lss) (k := .i64) (a := x9_8) (b := (a0.length : Int)) rfl rfl rfl rfl) rfl rfl ?_
        exact .done (.rf rfl rfl)
      refine Ok.test (b := (decide (x9_8 < (a0.length : Int)))) rfl (fun hb29 => ?_) (fun hb29 => ?_)
      · replace H := ifT H hb29
        refine Ok.skip ?_
        refine Ok.seq ?_
        refine Ok.block ?_
        refine Ok.seq ?_
        obtain ⟨c12, H⟩ := assertE H
        refine Ok.region (σ' := ⟨[(0, (S a0)), (8, (S x8_7)), (9, (.v (.int .i64 x9_8))), (10, (.v (.int .u8 (bt a0 x9_8))))], []⟩) ?_ ?_
        · refine .cv (VOk.mv (d := (S a0)) rfl rfl) rfl rfl ?_
          refine .cv (VOk.mv (d := (.v (.int .i64 x9_8))) rfl rfl) rfl rfl ?_
          refine .cv (VOk.indexStr (s := a0) (i := x9_8) rfl Tryd.underlying9 rfl rfl c12) rfl rfl ?_
          refine .cv (VOk.asg (d := (.v (.int .u8 (bt a0 x9_8)))) rfl rfl) rfl rfl ?_
          exact .done (.rf rfl rfl)
        refine Ok.seq ?_
        refine Ok.seq ?_
        refine Ok.region (σ' := ⟨[(0, (S a0)), (8, (S x8_7)), (9, (.v (.int .i64 x9_8))), (10, (.v (.int .u8 (bt a0 x9_8)))), (44, (.v (.bool ((bt a0 x9_8) == 34))))], []⟩) ?_ ?_
        · refine .cv (VOk.mv (d := (.v (.int .u8 (bt a0 x9_8)))) rfl rfl) rfl rfl ?_
          refine .cv (VOk.arith (op := .eql) (k := .u8) (a := (bt a0 x9_8)) (b := 34) rfl rfl rfl rfl) rfl rfl ?_
          exact .done (.rf rfl rfl)
        refine Ok.test (b := ((bt a0 x9_8) == 34)) rfl (fun hb28 => ?_) (fun hb28 => ?_)
        · replace H := ifT H hb28
          refine Ok.seq ?_
          refine Ok.region (σ' := ⟨[(4, (S x8_7)), (5, (.v (.int .i64 (IntKind.i64.wrap (x9_8 + 1))))), (6, (.v (.bool true)))], []⟩) ?_ ?_
          · refine .cv (VOk.mv (d := (S x8_7)) rfl rfl) rfl rfl ?_
            refine .cv (VOk.mv (d := (.v (.int .i64 x9_8))) rfl rfl) rfl rfl ?_
            refine .cv (VOk.arith (op := .add) (k := .i64) (a := x9_8) (b := 1) rfl rfl rfl rfl) rfl rfl ?_
            refine .cv (VOk.asg (d := (S x8_7)) rfl rfl) rfl rfl ?_
            refine .cv (VOk.asg (d := (.v (.int .i64 (IntKind.i64.wrap (x9_8 + 1))))) rfl rfl) rfl rfl ?_
            refine .cv (VOk.asg (d := (.v (.bool true))) rfl rfl) rfl rfl ?_
            exact .done (.rf rfl rfl)
          refine Ok.ret ?_
          obtain rfl := Option.some.inj H
          exact ⟨.inl rfl, ⟨_, (.cons (.tmp rfl) (.cons (.tmp rfl) (.cons (.tmp rfl) .nil))), rfl⟩, trivial⟩
        · replace H := ifF H hb28
          refine Ok.skip ?_
          refine Ok.meet (fun σ => ∃ (x9_13 : Int), σ = ⟨[(0, (S a0)), (8, (S x8_7)), (9, (.v (.int .i64 x9_13)))], []⟩ ∧ watchbillref07_value.j1 (watchbillref07_value.l0 k a0 m11) a0 x8_7 x9_13 = some r) ?_ ?_
          · refine Ok.seq ?_
            refine Ok.region (σ' := ⟨[(0, (S a0)), (8, (S x8_7)), (9, (.v (.int .i64 x9_8))), (49, (.v (.bool ((bt a0 x9_8) == 92))))], []⟩) ?_ ?_
            · refine .cv (VOk.mv (d := (.v (.int .u8 (bt a0 x9_8)))) rfl rfl) rfl rfl ?_
              refine .cv (VOk.arith (op := .eql) (k := .u8) (a := (bt a0 x9_8)) (b := 92) rfl rfl rfl rfl) rfl rfl ?_
              exact .done (.rf rfl rfl)
            refine Ok.test (b := ((bt a0 x9_8) == 92)) rfl (fun hb27 => ?_) (fun hb27 => ?_)
            · replace H := ifT H hb27
              refine Ok.seq ?_
              refine Ok.region (σ' := ⟨[(0, (S a0)), (8, (S x8_7)), (9, (.v (.int .i64 (IntKind.i64.wrap (x9_8 + 1)))))], []⟩) ?_ ?_
              · refine .cv (VOk.mv (d := (.v (.int .i64 x9_8))) rfl rfl) rfl rfl ?_
                refine .cv (VOk.arith (op := .add) (k := .i64) (a := x9_8) (b := 1) rfl rfl rfl rfl) rfl rfl ?_
                refine .cv (VOk.asg (d := (.v (.int .i64 (IntKind.i64.wrap (x9_8 + 1))))) rfl rfl) rfl rfl ?_
                exact .done (.rf rfl rfl)
              refine Ok.seq ?_
              obtain ⟨c17, H⟩ := assertE H
              obtain ⟨c19, H⟩ := assertE H
              refine Ok.region (σ' := ⟨[(0, (S a0)), (8, (S x8_7)), (9, (.v (.int .i64 (IntKind.i64.wrap (x9_8 + 1))))), (67, (.v (.bool (((IntKind.i64.wrap (x9_8 + 1)) == (a0.length : Int)) || (((bt a0 (IntKind.i64.wrap (x9_8 + 1))) != 34) && ((bt a0 (IntKind.i64.wrap (x9_8 + 1))) != 92))))))], []⟩) ?_ ?_
              · refine .cv (VOk.mv (d := (.v (.int .i64 (IntKind.i64.wrap (x9_8 + 1))))) rfl rfl) rfl rfl ?_
                refine .cv (VOk.mv (d := (S a0)) rfl rfl) rfl rfl ?_
                refine .cv (VOk.lenStr (s := a0) rfl Tryd.underlying9 rfl) rfl rfl ?_
                refine .cv (VOk.arith (op := .eql) (k := .i64) (a := (IntKind.i64.wrap (x9_8 + 1))) (b := (a0.length : Int)) rfl rfl rfl rfl) rfl rfl ?_
                refine .cv (VOk.mv (d := (.v (.bool ((IntKind.i64.wrap (x9_8 + 1)) == (a0.length : Int))))) rfl rfl) rfl rfl ?_
                refine OpsOk.consI rfl rfl rfl (.one rfl) rfl (fun hw16 => (VOk.g (VOk.mv (d := (S a0)) rfl rfl))) ?_
                refine OpsOk.consI rfl rfl rfl (.one rfl) rfl (fun hw16 => (VOk.g (VOk.mv (d := (.v (.int .i64 (IntKind.i64.wrap (x9_8 + 1))))) rfl rfl))) ?_
                refine OpsOk.consI rfl rfl rfl (.one rfl) rfl (fun hw16 => (GOk.fr (fr' := [(57, (S a0)), (58, (.v (.int .i64 (IntKind.i64.wrap (x9_8 + 1)))))]) ⟨DLe.of_eq (cT hw16).symm, DLe.of_eq (cT hw16).symm, trivial⟩ (VOk.g (VOk.indexStr (s := a0) (i := (IntKind.i64.wrap (x9_8 + 1))) rfl Tryd.underlying9 rfl rfl (c17 hw16))))) ?_
                refine OpsOk.consI rfl rfl rfl (.one rfl) rfl (fun hw16 => (GOk.fr (fr' := [(59, (.v (.int .u8 (bt a0 (IntKind.i64.wrap (x9_8 + 1))))))]) ⟨DLe.of_eq (cT hw16).symm, trivial⟩ (VOk.g (VOk.arith (op := .neq) (k := .u8) (a := (bt a0 (IntKind.i64.wrap (x9_8 + 1)))) (b := 34) rfl rfl rfl rfl)))) ?_
                refine OpsOk.consI rfl rfl rfl (.one rfl) rfl (fun hw16 => (GOk.fr (fr' := [(60, (.v (.bool ((bt a0 (IntKind.i64.wrap (x9_8 + 1))) != 34))))]) ⟨DLe.of_eq (cT hw16).symm, trivial⟩ (VOk.g (VOk.mv (d := (.v (.bool ((bt a0 (IntKind.i64.wrap (x9_8 + 1))) != 34)))) rfl rfl)))) ?_
                refine OpsOk.consI rfl rfl rfl (.two rfl) rfl (fun hw18 => (VOk.g (VOk.mv (d := (S a0)) rfl rfl))) ?_
                refine OpsOk.consI rfl rfl rfl (.two rfl) rfl (fun hw18 => (VOk.g (VOk.mv (d := (.v (.int .i64 (IntKind.i64.wrap (x9_8 + 1))))) rfl rfl))) ?_
                refine OpsOk.consI rfl rfl rfl (.two rfl) rfl (fun hw18 => (GOk.fr (fr' := [(62, (S a0)), (63, (.v (.int .i64 (IntKind.i64.wrap (x9_8 + 1)))))]) ⟨DLe.of_eq (cT hw18).symm, DLe.of_eq (cT hw18).symm, trivial⟩ (VOk.g (VOk.indexStr (s := a0) (i := (IntKind.i64.wrap (x9_8 + 1))) rfl Tryd.underlying9 rfl rfl (c19 hw18))))) ?_
                refine OpsOk.consI rfl rfl rfl (.two rfl) rfl (fun hw18 => (GOk.fr (fr' := [(64, (.v (.int .u8 (bt a0 (IntKind.i64.wrap (x9_8 + 1))))))]) ⟨DLe.of_eq (cT hw18).symm, trivial⟩ (VOk.g (VOk.arith (op := .neq) (k := .u8) (a := (bt a0 (IntKind.i64.wrap (x9_8 + 1)))) (b := 92) rfl rfl rfl rfl)))) ?_
                refine OpsOk.consI rfl rfl rfl (.one rfl) rfl (fun hw16 => (VOk.g (VOk.to (VOk.pickI (b := ((bt a0 (IntKind.i64.wrap (x9_8 + 1))) != 34)) (p := ((bt a0 (IntKind.i64.wrap (x9_8 + 1))) != 92)) (q := false) rfl (cT hw16) (fun hp20 => (cT (and_i hw16 (t_beq hp20)))) (fun hp20 => rfl)) (pickAnd ((bt a0 (IntKind.i64.wrap (x9_8 + 1))) != 34) ((bt a0 (IntKind.i64.wrap (x9_8 + 1))) != 92))))) ?_
                refine .cv (VOk.to (VOk.pickI (b := ((IntKind.i64.wrap (x9_8 + 1)) == (a0.length : Int))) (p := true) (q := (((bt a0 (IntKind.i64.wrap (x9_8 + 1))) != 34) && ((bt a0 (IntKind.i64.wrap (x9_8 + 1))) != 92))) rfl rfl (fun hp21 => rfl) (fun hp21 => (cT (f_beq hp21)))) (pickOr ((IntKind.i64.wrap (x9_8 + 1)) == (a0.length : Int)) (((bt a0 (IntKind.i64.wrap (x9_8 + 1))) != 34) && ((bt a0 (IntKind.i64.wrap (x9_8 + 1))) != 92)))) rfl rfl ?_
                exact .done (.rf rfl rfl)
              refine Ok.test (b := (((IntKind.i64.wrap (x9_8 + 1)) == (a0.length : Int)) || (((bt a0 (IntKind.i64.wrap (x9_8 + 1))) != 34) && ((bt a0 (IntKind.i64.wrap (x9_8 + 1))) != 92)))) rfl (fun hb22 => ?_) (fun hb22 => ?_)
              · replace H := ifT H hb22
                refine Ok.seq ?_
                refine Ok.region (σ' := ⟨[(4, (S ([] : Str))), (5, (.v (.int .i64 0))), (6, (.v (.bool false)))], []⟩) ?_ ?_
                · refine .cv (VOk.asg (d := (S ([] : Str))) rfl rfl) rfl rfl ?_
                  refine .cv (VOk.asg (d := (.v (.int .i64 0))) rfl rfl) rfl rfl ?_
                  refine .cv (VOk.asg (d := (.v (.bool false))) rfl rfl) rfl rfl ?_
                  exact .done (.rf rfl rfl)
                refine Ok.ret ?_
                obtain rfl := Option.some.inj H
                exact ⟨.inl rfl, ⟨_, (.cons (.tmp rfl) (.cons (.tmp rfl) (.cons (.tmp rfl) .nil))), rfl⟩, trivial⟩
              · replace H := ifF H hb22
                refine Ok.le (σ' := ⟨[(0, (S a0)), (8, (S x8_7)), (9, (.v (.int .i64 (IntKind.i64.wrap (x9_8 + 1)))))], []⟩) (.rf rfl rfl) ?_
                refine Ok.skip ?_
                exact ⟨(IntKind.i64.wrap (x9_8 + 1)), rfl, H⟩
            · replace H := ifF H hb27
              refine Ok.seq ?_
              obtain ⟨c23, H⟩ := assertE H
              obtain ⟨t24, h25, H⟩ := bindE H
              refine Ok.region (σ' := ⟨[(0, (S a0)), (8, (S x8_7)), (9, (.v (.int .i64 x9_8))), (74, (.v (.bool (!t24))))], []⟩) ?_ ?_
              · refine .cv (VOk.mv (d := (S a0)) rfl rfl) rfl rfl ?_
                refine .cv (VOk.mv (d := (.v (.int .i64 x9_8))) rfl rfl) rfl rfl ?_
                refine .cv (VOk.mv (d := (.v (.int .i64 x9_8))) rfl rfl) rfl rfl ?_
                refine .cv (VOk.arith (op := .add) (k := .i64) (a := x9_8) (b := 1) rfl rfl rfl rfl) rfl rfl ?_
                refine .cv (VOk.sliceStr (s := a0) (l := x9_8) (h := (IntKind.i64.wrap (x9_8 + 1))) rfl Tryd.underlying9 rfl rfl rfl c23) rfl rfl ?_
                refine .cg (GOk.call rfl rfl cl44 rfl (watchbillref07_Plain.ok h25) rfl) rfl rfl ?_
                refine .cv (VOk.not (b := t24) rfl rfl) rfl rfl ?_
                exact .done (.rf rfl rfl)
              refine Ok.test (b := (!t24)) rfl (fun hb26 => ?_) (fun hb26 => ?_)
              · replace H := ifT H hb26
                refine Ok.seq ?_
                refine Ok.region (σ' := ⟨[(4, (S ([] : Str))), (5, (.v (.int .i64 0))), (6, (.v (.bool false)))], []⟩) ?_ ?_
                · refine .cv (VOk.asg (d := (S ([] : Str))) rfl rfl) rfl rfl ?_
                  refine .cv (VOk.asg (d := (.v (.int .i64 0))) rfl rfl) rfl rfl ?_
                  refine .cv (VOk.asg (d := (.v (.bool false))) rfl rfl) rfl rfl ?_
                  exact .done (.rf rfl rfl)
                refine Ok.ret ?_
                obtain rfl := Option.some.inj H
                exact ⟨.inl rfl, ⟨_, (.cons (.tmp rfl) (.cons (.tmp rfl) (.cons (.tmp rfl) .nil))), rfl⟩, trivial⟩
              · replace H := ifF H hb26
                refine Ok.le (σ' := ⟨[(0, (S a0)), (8, (S x8_7)), (9, (.v (.int .i64 x9_8)))], []⟩) (.rf rfl rfl) ?_
                refine Ok.skip ?_
                exact ⟨x9_8, rfl, H⟩
          · rintro σ ⟨x9_13, rfl, H⟩
            unfold watchbillref07_value.j1 at H
            obtain ⟨c14, H⟩ := assertE H
            obtain ⟨c15, H⟩ := assertE H
            refine Ok.region (σ' := ⟨[(0, (S a0)), (8, (S (x8_7 ++ (sl a0 x9_13 (IntKind.i64.wrap (x9_13 + 1)))))), (9, (.v (.int .i64 x9_13)))], []⟩) ?_ ?_
            · refine .cv (VOk.mv (d := (S x8_7)) rfl rfl) rfl rfl ?_
              refine .cv (VOk.mv (d := (S a0)) rfl rfl) rfl rfl ?_
              refine .cv (VOk.mv (d := (.v (.int .i64 x9_13))) rfl rfl) rfl rfl ?_
              refine .cv (VOk.mv (d := (.v (.int .i64 x9_13))) rfl rfl) rfl rfl ?_
              refine .cv (VOk.arith (op := .add) (k := .i64) (a := x9_13) (b := 1) rfl rfl rfl rfl) rfl rfl ?_
              refine .cv (VOk.sliceStr (s := a0) (l := x9_13) (h := (IntKind.i64.wrap (x9_13 + 1))) rfl Tryd.underlying9 rfl rfl rfl c14) rfl rfl ?_
              refine .cv (VOk.cat (a := x8_7) (b := (sl a0 x9_13 (IntKind.i64.wrap (x9_13 + 1)))) rfl rfl rfl c15) rfl rfl ?_
              refine .cv (VOk.asg (d := (S (x8_7 ++ (sl a0 x9_13 (IntKind.i64.wrap (x9_13 + 1)))))) rfl rfl) rfl rfl ?_
              exact .done (.rf rfl rfl)
            refine Ok.region (σ' := ⟨[(0, (S a0)), (8, (S (x8_7 ++ (sl a0 x9_13 (IntKind.i64.wrap (x9_13 + 1)))))), (9, (.v (.int .i64 (IntKind.i64.wrap (x9_13 + 1)))))], []⟩) ?_ ?_
            · refine .cv (VOk.mv (d := (.v (.int .i64 x9_13))) rfl rfl) rfl rfl ?_
              refine .cv (VOk.arith (op := .add) (k := .i64) (a := x9_13) (b := 1) rfl rfl rfl rfl) rfl rfl ?_
              refine .cv (VOk.asg (d := (.v (.int .i64 (IntKind.i64.wrap (x9_13 + 1))))) rfl rfl) rfl rfl ?_
              exact .done (.rf rfl rfl)
            exact ⟨m11, Nat.lt_succ_self m11, (x8_7 ++ (sl a0 x9_13 (IntKind.i64.wrap (x9_13 + 1)))), (IntKind.i64.wrap (x9_13 + 1)), rfl, H⟩
      · replace H := ifF H hb29
        refine Ok.exit ?_
        refine Ok.seq ?_
        refine Ok.region (σ' := ⟨[(4, (S ([] : Str))), (5, (.v (.int .i64 0))), (6, (.v (.bool false)))], []⟩) ?_ ?_
        · refine .cv (VOk.asg (d := (S ([] : Str))) rfl rfl) rfl rfl ?_
          refine .cv (VOk.asg (d := (.v (.int .i64 0))) rfl rfl) rfl rfl ?_
          refine .cv (VOk.asg (d := (.v (.bool false))) rfl rfl) rfl rfl ?_
          exact .done (.rf rfl rfl)
        refine Ok.ret ?_
        obtain rfl := Option.some.inj H
        exact ⟨.inl rfl, ⟨_, (.cons (.tmp rfl) (.cons (.tmp rfl) (.cons (.tmp rfl) .nil))), rfl⟩, trivial⟩

/-! watchbill/watchbillref07.Param: function 24 -/
def watchbillref07_Param.l0 (k : Nat) (a0 : List T_api_Field) (a1 : Str) : Nat → Int → Option (Str × Bool)
  | 0, _ => none
  | m3 + 1, x6_1 => (if (decide (x6_1 < (a0.length : Int))) = true then (if (0 : Int) ≤ x6_1 ∧ x6_1 < (a0.length : Int) then ((watchbillref07_Lower k ((rd a0 x6_1).Name)).bind fun (t5 : Str) => ((watchbillref07_Lower k a1).bind fun (t7 : Str) => (if (t5 == t7) = true then (if (0 : Int) ≤ x6_1 ∧ x6_1 < (a0.length : Int) then some ((rd a0 x6_1).Value, true) else none) else watchbillref07_Param.l0 k a0 a1 m3 (IntKind.i64.wrap (x6_1 + 1))))) else none) else some (([] : Str), false))
def watchbillref07_Param (k : Nat) (a0 : List T_api_Field) (a1 : Str) : Option (Str × Bool) := watchbillref07_Param.l0 k a0 a1 k 0
theorem watchbillref07_Param.ok {k : Nat} {a0 : List T_api_Field} {a1 : Str} {r : Str × Bool} (H : watchbillref07_Param k a0 a1 = some r) : Vx.Fn Tryd.prog 24 [(L 2 e_api_Field a0), (S a1)] [] (.tup [(S r.1), (.v (.bool r.2))]) [] := by
  unfold watchbillref07_Param at H
  refine Vx.Fn.of_okR Tryd.func24 rfl (Nat.le_of_ble_eq_true rfl) ?_
  refine Ok.seq ?_
  refine Ok.region (σ' := ⟨[(0, (L 2 e_api_Field a0)), (1, (S a1))], []⟩) ?_ ?_
  · refine .cv (VOk.asg (d := (S ([] : Str))) rfl rfl) rfl rfl ?_
    refine .cv (VOk.asg (d := (.v (.bool false))) rfl rfl) rfl rfl ?_
    exact .done (.rf rfl rfl)
  refine Ok.seq ?_
  refine Ok.seq ?_
  refine Ok.region (σ' := ⟨[(0, (L 2 e_api_Field a0)), (1, (S a1)), (6, (.v (.int .i64 0)))], []⟩) ?_ ?_
  · refine .cv (VOk.asg (d := (.v (.int .i64 0))) rfl rfl) rfl rfl ?_
    exact .done (.rf rfl rfl)
  refine Ok.block ?_
  refine Ok.le (σ' := ⟨[(0, (L 2 e_api_Field a0)), (1, (S a1)), (6, (.v (.int .i64 0)))], []⟩) (.rf rfl rfl) ?_
  refine Ok.loop (fun m3 σ => ∃ (x6_1 : Int), σ = ⟨[(0, (L 2 e_api_Field a0)), (1, (S a1)), (6, (.v (.int .i64 x6_1)))], []⟩ ∧ watchbillref07_Param.l0 k a0 a1 m3 x6_1 = some r) k ⟨0, rfl, H⟩ ?_
  rintro m3 σ ⟨x6_1, rfl, H⟩
  cases m3 with
  | zero => exact absurd H (by simp [watchbillref07_Param.l0])
  | succ m3 =>
    unfold watchbillref07_Param.l0 at H
    refine Ok.seq ?_
    refine Ok.seq ?_
    refine Ok.region (σ' := ⟨[(0, (L 2 e_api_Field a0)), (1, (S a1)), (6, (.v (.int .i64 x6_1))), (10, (.v (.bool (decide (x6_1 < (a0.length : Int))))))], []⟩) ?_ ?_
    · refine .cv (VOk.mv (d := (.v (.int .i64 x6_1))) rfl rfl) rfl rfl ?_
      refine .cv (VOk.mv (d := (L 2 e_api_Field a0)) rfl rfl) rfl rfl ?_
      refine .cv (VOk.lenL (e := e_api_Field) (xs := a0) rfl Tryd.underlying42 rfl) rfl rfl ?_
      refine .cv (VOk.arith (op := .lss) (k := .i64) (a := x6_1) (b := (a0.length : Int)) rfl rfl rfl rfl) rfl rfl ?_
      exact .done (.rf rfl rfl)
    refine Ok.test (b := (decide (x6_1 < (a0.length : Int)))) rfl (fun hb11 => ?_) (fun hb11 => ?_)
    · replace H := ifT H hb11
      refine Ok.skip ?_
      refine Ok.seq ?_
      refine Ok.block ?_
      refine Ok.seq ?_
      obtain ⟨c4, H⟩ := assertE H
      obtain ⟨t5, h6, H⟩ := bindE H
      obtain ⟨t7, h8, H⟩ := bindE H
      refine Ok.region (σ' := ⟨[(0, (L 2 e_api_Field a0)), (1, (S a1)), (6, (.v (.int .i64 x6_1))), (21, (.v (.bool (t5 == t7))))], []⟩) ?_ ?_
      · refine .cv (VOk.mv (d := (L 2 e_api_Field a0)) rfl rfl) rfl rfl ?_
        refine .cv (VOk.mv (d := (.v (.int .i64 x6_1))) rfl rfl) rfl rfl ?_
        refine .cv (VOk.indexL (sz := 2) (e := e_api_Field) (xs := a0) (i := x6_1) rfl Tryd.underlying42 sz54 rfl rfl c4) rfl rfl ?_
        refine .cv (VOk.to (VOk.fieldFp rfl Tryd.underlying54 rfl sz9 rfl) rfl) rfl rfl ?_
        refine .cv (VOk.loadFp (d := (S ((rd a0 x6_1).Name))) rfl Tryd.underlying9 rfl rfl rfl) rfl rfl ?_
        refine .cg (GOk.call rfl rfl cl26 rfl (watchbillref07_Lower.ok h6) rfl) rfl rfl ?_
        refine .cv (VOk.mv (d := (S a1)) rfl rfl) rfl rfl ?_
        refine .cg (GOk.call rfl rfl cl26 rfl (watchbillref07_Lower.ok h8) rfl) rfl rfl ?_
        refine .cv (VOk.strOp (op := .eql) (a := t5) (b := t7) rfl rfl rfl rfl) rfl rfl ?_
        exact .done (.rf rfl rfl)
      refine Ok.test (b := (t5 == t7)) rfl (fun hb10 => ?_) (fun hb10 => ?_)
      · replace H := ifT H hb10
        refine Ok.seq ?_
        obtain ⟨c9, H⟩ := assertE H
        refine Ok.region (σ' := ⟨[(4, (S ((rd a0 x6_1).Value))), (5, (.v (.bool true)))], []⟩) ?_ ?_
        · refine .cv (VOk.mv (d := (L 2 e_api_Field a0)) rfl rfl) rfl rfl ?_
          refine .cv (VOk.mv (d := (.v (.int .i64 x6_1))) rfl rfl) rfl rfl ?_
          refine .cv (VOk.indexL (sz := 2) (e := e_api_Field) (xs := a0) (i := x6_1) rfl Tryd.underlying42 sz54 rfl rfl c9) rfl rfl ?_
          refine .cv (VOk.to (VOk.fieldFp rfl Tryd.underlying54 rfl sz9 rfl) rfl) rfl rfl ?_
          refine .cv (VOk.loadFp (d := (S ((rd a0 x6_1).Value))) rfl Tryd.underlying9 rfl rfl rfl) rfl rfl ?_
          refine .cv (VOk.asg (d := (S ((rd a0 x6_1).Value))) rfl rfl) rfl rfl ?_
          refine .cv (VOk.asg (d := (.v (.bool true))) rfl rfl) rfl rfl ?_
          exact .done (.rf rfl rfl)
        refine Ok.ret ?_
        obtain rfl := Option.some.inj H
        exact ⟨.inl rfl, ⟨_, (.cons (.tmp rfl) (.cons (.tmp rfl) .nil)), rfl⟩, trivial⟩
      · replace H := ifF H hb10
        refine Ok.skip ?_
        refine Ok.region (σ' := ⟨[(0, (L 2 e_api_Field a0)), (1, (S a1)), (6, (.v (.int .i64 (IntKind.i64.wrap (x6_1 + 1)))))], []⟩) ?_ ?_
        · refine .cv (VOk.mv (d := (.v (.int .i64 x6_1))) rfl rfl) rfl rfl ?_
          refine .cv (VOk.arith (op := .add) (k := .i64) (a := x6_1) (b := 1) rfl rfl rfl rfl) rfl rfl ?_
          refine .cv (VOk.asg (d := (.v (.int .i64 (IntKind.i64.wrap (x6_1 + 1))))) rfl rfl) rfl rfl ?_
          exact .done (.rf rfl rfl)
        exact ⟨m3, Nat.lt_succ_self m3, (IntKind.i64.wrap (x6_1 + 1)), rfl, H⟩
    · replace H := ifF H hb11
      refine Ok.exit ?_
      refine Ok.seq ?_
      refine Ok.region (σ' := ⟨[(4, (S ([] : Str))), (5, (.v (.bool false)))], []⟩) ?_ ?_
      · refine .cv (VOk.asg (d := (S ([] : Str))) rfl rfl) rfl rfl ?_
        refine .cv (VOk.asg (d := (.v (.bool false))) rfl rfl) rfl rfl ?_
        exact .done (.rf rfl rfl)
      refine Ok.ret ?_
      obtain rfl := Option.some.inj H
      exact ⟨.inl rfl, ⟨_, (.cons (.tmp rfl) (.cons (.tmp rfl) .nil)), rfl⟩, trivial⟩

/-! watchbill/watchbillref07.ParseType: function 22 -/
def watchbillref07_ParseType.l0 (k : Nat) (a0 : Str) (t1 : Int) (x6_5 : Int) : Nat → List T_api_Field → Int → Option (Str × (List T_api_Field) × Int)
  | 0, _, _ => none
  | m13 + 1, y8_10, x6_9 => ((watchbillref07_skip k a0 x6_9).bind fun (t14 : Int) => (if (t14 == (a0.length : Int)) = true then ((watchbillref07_Lower k (sl a0 t1 x6_5)).bind fun (t16 : Str) => some (t16, y8_10, 0)) else (if (0 : Int) ≤ t14 ∧ t14 < (a0.length : Int) then (if ((bt a0 t14) != 59) = true then some (([] : Str), ([] : List T_api_Field), 4) else ((watchbillref07_skip k a0 (IntKind.i64.wrap (t14 + 1))).bind fun (t19 : Int) => ((watchbillref07_run k a0 t19).bind fun (t21 : Int) => ((watchbillref07_skip k a0 t21).bind fun (t23 : Int) => (if ((((t21 == t19) || (decide (t23 ≥ (a0.length : Int)))) == false) = true → (0 : Int) ≤ t23 ∧ t23 < (a0.length : Int)) then (if (((t21 == t19) || (decide (t23 ≥ (a0.length : Int)))) || ((bt a0 t23) != 61)) = true then some (([] : Str), ([] : List T_api_Field), 4) else ((watchbillref07_skip k a0 (IntKind.i64.wrap (t23 + 1))).bind fun (t30 : Int) => ((watchbillref07_value k a0 t30).bind fun (t32 : Str × Int × Bool) => (if (0 : Int) ≤ t19 ∧ t19 ≤ t21 ∧ t21 ≤ (a0.length : Int) then ((watchbillref07_Param k y8_10 (sl a0 t19 t21)).bind fun (t35 : Str × Bool) => (if ((!t32.2.2) || t35.2) = true then some (([] : Str), ([] : List T_api_Field), 4) else (if (0 : Int) ≤ t19 ∧ t19 ≤ t21 ∧ t21 ≤ (a0.length : Int) then ((watchbillref07_Lower k (sl a0 t19 t21)).bind fun (t40 : Str) => (if (y8_10.length + ([(T_api_Field.mk t40 t32.1)] : List T_api_Field).length) * 32 ≤ 140737488355328 then watchbillref07_ParseType.l0 k a0 t1 x6_5 m13 (y8_10 ++ ([(T_api_Field.mk t40 t32.1)] : List T_api_Field)) t32.2.1 else none)) else none))) else none)))) else none))))) else none)))
def watchbillref07_ParseType.j1 (k : Nat) (a0 : Str) (t1 : Int) (x6_5 : Int) : Option (Str × (List T_api_Field) × Int) := (if (0 : Int) ≤ t1 ∧ t1 ≤ x6_5 ∧ x6_5 ≤ (a0.length : Int) then ((watchbillref07_slash k (sl a0 t1 x6_5)).bind fun (t7 : Int) => (if (decide (t7 < 0)) = true then some (([] : Str), ([] : List T_api_Field), 31) else watchbillref07_ParseType.l0 k a0 t1 x6_5 k ([] : List T_api_Field) x6_5)) else none)
def watchbillref07_ParseType (k : Nat) (a0 : Str) : Option (Str × (List T_api_Field) × Int) := ((watchbillref07_skip k a0 0).bind fun (t1 : Int) => ((watchbillref07_run k a0 t1).bind fun (t3 : Int) => (if (((decide (t3 < (a0.length : Int))) == true) = true → (0 : Int) ≤ t3 ∧ t3 < (a0.length : Int)) then (if ((decide (t3 < (a0.length : Int))) && ((bt a0 t3) == 47)) = true then ((watchbillref07_run k a0 (IntKind.i64.wrap (t3 + 1))).bind fun (t51 : Int) => watchbillref07_ParseType.j1 k a0 t1 t51) else watchbillref07_ParseType.j1 k a0 t1 t3) else none)))
theorem watchbillref07_ParseType.ok {k : Nat} {a0 : Str} {r : Str × (List T_api_Field) × Int} (H : watchbillref07_ParseType k a0 = some r) : Vx.Fn Tryd.prog 22 [(S a0)] [] (.tup [(S r.1), (L 2 e_api_Field r.2.1), (.v (.int .i64 r.2.2))]) [] := by
  unfold watchbillref07_ParseType at H
  refine Vx.Fn.of_okR Tryd.func22 rfl (Nat.le_of_ble_eq_true rfl) ?_
  refine Ok.seq ?_
  refine Ok.region (σ' := ⟨[(0, (S a0))], []⟩) ?_ ?_
  · refine .cv (VOk.asg (d := (S ([] : Str))) rfl rfl) rfl rfl ?_
    refine .cv (VOk.asg (d := (.v (.slice none 0 0))) rfl rfl) rfl rfl ?_
    refine .cv (VOk.asg (d := (.v (.int .i64 0))) rfl rfl) rfl rfl ?_
    exact .done (.rf rfl rfl)
  refine Ok.seq ?_
  obtain ⟨t1, h2, H⟩ := bindE H
  refine Ok.region (σ' := ⟨[(0, (S a0)), (5, (.v (.int .i64 t1)))], []⟩) ?_ ?_
  · refine .cv (VOk.mv (d := (S a0)) rfl rfl) rfl rfl ?_
    refine .cg (GOk.call rfl rfl cl49 rfl (watchbillref07_skip.ok h2) rfl) rfl rfl ?_
    refine .cv (VOk.asg (d := (.v (.int .i64 t1))) rfl rfl) rfl rfl ?_
    exact .done (.rf rfl rfl)
  refine Ok.seq ?_
  obtain ⟨t3, h4, H⟩ := bindE H
  refine Ok.region (σ' := ⟨[(0, (S a0)), (5, (.v (.int .i64 t1))), (6, (.v (.int .i64 t3)))], []⟩) ?_ ?_
  · refine .cv (VOk.mv (d := (S a0)) rfl rfl) rfl rfl ?_
    refine .cv (VOk.mv (d := (.v (.int .i64 t1))) rfl rfl) rfl rfl ?_
    refine .cg (GOk.call rfl rfl cl50 rfl (watchbillref07_run.ok h4) rfl) rfl rfl ?_
    refine .cv (VOk.asg (d := (.v (.int .i64 t3))) rfl rfl) rfl rfl ?_
    exact .done (.rf rfl rfl)
  refine Ok.meet (fun σ => ∃ (x6_5 : Int), σ = ⟨[(0, (S a0)), (5, (.v (.int .i64 t1))), (6, (.v (.int .i64 x6_5)))], []⟩ ∧ watchbillref07_ParseType.j1 k a0 t1 x6_5 = some r) ?_ ?_
  · refine Ok.seq ?_
    obtain ⟨c49, H⟩ := assertE H
    refine Ok.region (σ' := ⟨[(0, (S a0)), (5, (.v (.int .i64 t1))), (6, (.v (.int .i64 t3))), (31, (.v (.bool ((decide (t3 < (a0.length : Int))) && ((bt a0 t3) == 47)))))], []⟩) ?_ ?_
    · refine .cv (VOk.mv (d := (.v (.int .i64 t3))) rfl rfl) rfl rfl ?_
      refine .cv (VOk.mv (d := (S a0)) rfl rfl) rfl rfl ?_
      refine .cv (VOk.lenStr (s := a0) rfl Tryd.underlying9 rfl) rfl rfl ?_
      refine .cv (VOk.arith (op := .lss) (k := .i64) (a := t3) (b := (a0.length : Int)) rfl rfl rfl rfl) rfl rfl ?_
      refine .cv (VOk.mv (d := (.v (.bool (decide (t3 < (a0.length : Int)))))) rfl rfl) rfl rfl ?_
      refine OpsOk.consI rfl rfl rfl (.one rfl) rfl (fun hw48 => (VOk.g (VOk.mv (d := (S a0)) rfl rfl))) ?_
      refine OpsOk.consI rfl rfl rfl (.one rfl) rfl (fun hw48 => (VOk.g (VOk.mv (d := (.v (.int .i64 t3))) rfl rfl))) ?_
      refine OpsOk.consI rfl rfl rfl (.one rfl) rfl (fun hw48 => (GOk.fr (fr' := [(27, (S a0)), (28, (.v (.int .i64 t3)))]) ⟨DLe.of_eq (cT hw48).symm, DLe.of_eq (cT hw48).symm, trivial⟩ (VOk.g (VOk.indexStr (s := a0) (i := t3) rfl Tryd.underlying9 rfl rfl (c49 hw48))))) ?_
      refine OpsOk.consI rfl rfl rfl (.one rfl) rfl (fun hw48 => (GOk.fr (fr' := [(29, (.v (.int .u8 (bt a0 t3))))]) ⟨DLe.of_eq (cT hw48).symm, trivial⟩ (VOk.g (VOk.arith (op := .eql) (k := .u8) (a := (bt a0 t3)) (b := 47) rfl rfl rfl rfl)))) ?_
      refine .cv (VOk.to (VOk.pickI (b := (decide (t3 < (a0.length : Int)))) (p := ((bt a0 t3) == 47)) (q := false) rfl rfl (fun hp50 => (cT (t_beq hp50))) (fun hp50 => rfl)) (pickAnd (decide (t3 < (a0.length : Int))) ((bt a0 t3) == 47))) rfl rfl ?_
      exact .done (.rf rfl rfl)
    refine Ok.test (b := ((decide (t3 < (a0.length : Int))) && ((bt a0 t3) == 47))) rfl (fun hb53 => ?_) (fun hb53 => ?_)
    · replace H := ifT H hb53
      obtain ⟨t51, h52, H⟩ := bindE H
      refine Ok.region (σ' := ⟨[(0, (S a0)), (5, (.v (.int .i64 t1))), (6, (.v (.int .i64 t51)))], []⟩) ?_ ?_
      · refine .cv (VOk.mv (d := (S a0)) rfl rfl) rfl rfl ?_
        refine .cv (VOk.mv (d := (.v (.int .i64 t3))) rfl rfl) rfl rfl ?_
        refine .cv (VOk.arith (op := .add) (k := .i64) (a := t3) (b := 1) rfl rfl rfl rfl) rfl rfl ?_
        refine .cg (GOk.call rfl rfl cl50 rfl (watchbillref07_run.ok h52) rfl) rfl rfl ?_
        refine .cv (VOk.asg (d := (.v (.int .i64 t51))) rfl rfl) rfl rfl ?_
        exact .done (.rf rfl rfl)
      exact ⟨t51, rfl, H⟩
    · replace H := ifF H hb53
      refine Ok.le (σ' := ⟨[(0, (S a0)), (5, (.v (.int .i64 t1))), (6, (.v (.int .i64 t3)))], []⟩) (.rf rfl rfl) ?_
      refine Ok.skip ?_
      exact ⟨t3, rfl, H⟩
  · rintro σ ⟨x6_5, rfl, H⟩
    unfold watchbillref07_ParseType.j1 at H
    refine Ok.seq ?_
    obtain ⟨c6, H⟩ := assertE H
    refine Ok.region (σ' := ⟨[(0, (S a0)), (6, (.v (.int .i64 x6_5))), (7, (S (sl a0 t1 x6_5)))], []⟩) ?_ ?_
    · refine .cv (VOk.mv (d := (S a0)) rfl rfl) rfl rfl ?_
      refine .cv (VOk.mv (d := (.v (.int .i64 t1))) rfl rfl) rfl rfl ?_
      refine .cv (VOk.mv (d := (.v (.int .i64 x6_5))) rfl rfl) rfl rfl ?_
      refine .cv (VOk.sliceStr (s := a0) (l := t1) (h := x6_5) rfl Tryd.underlying9 rfl rfl rfl c6) rfl rfl ?_
      refine .cv (VOk.asg (d := (S (sl a0 t1 x6_5))) rfl rfl) rfl rfl ?_
      exact .done (.rf rfl rfl)
    refine Ok.seq ?_
    refine Ok.seq ?_
    obtain ⟨t7, h8, H⟩ := bindE H
    refine Ok.region (σ' := ⟨[(0, (S a0)), (6, (.v (.int .i64 x6_5))), (7, (S (sl a0 t1 x6_5))), (42, (.v (.bool (decide (t7 < 0)))))], []⟩) ?_ ?_
    · refine .cv (VOk.mv (d := (S (sl a0 t1 x6_5))) rfl rfl) rfl rfl ?_
      refine .cg (GOk.call rfl rfl cl43 rfl (watchbillref07_slash.ok h8) rfl) rfl rfl ?_
      refine .cv (VOk.arith (op := .lss) (k := .i64) (a := t7) (b := 0) rfl rfl rfl rfl) rfl rfl ?_
      exact .done (.rf rfl rfl)
    refine Ok.test (b := (decide (t7 < 0))) rfl (fun hb47 => ?_) (fun hb47 => ?_)
    · replace H := ifT H hb47
      refine Ok.seq ?_
      refine Ok.region (σ' := ⟨[(2, (S ([] : Str))), (3, (.v (.slice none 0 0))), (4, (.v (.int .i64 31)))], []⟩) ?_ ?_
      · refine .cv (VOk.asg (d := (S ([] : Str))) rfl rfl) rfl rfl ?_
        refine .cv (VOk.asg (d := (.v (.slice none 0 0))) rfl rfl) rfl rfl ?_
        refine .cv (VOk.asg (d := (.v (.int .i64 31))) rfl rfl) rfl rfl ?_
        exact .done (.rf rfl rfl)
      refine Ok.le (σ' := ⟨[(2, (S ([] : Str))), (3, (L 2 e_api_Field ([] : List T_api_Field))), (4, (.v (.int .i64 31)))], []⟩) (.mk ⟨.same _, .nil _, .same _, trivial⟩ trivial) ?_
      refine Ok.ret ?_
      obtain rfl := Option.some.inj H
      exact ⟨.inl rfl, ⟨_, (.cons (.tmp rfl) (.cons (.tmp rfl) (.cons (.tmp rfl) .nil))), rfl⟩, trivial⟩
    · replace H := ifF H hb47
      refine Ok.skip ?_
      refine Ok.seq ?_
      refine Ok.region (σ' := ⟨[(0, (S a0)), (6, (.v (.int .i64 x6_5))), (7, (S (sl a0 t1 x6_5))), (8, (.sref 8))], [(8, (.rows true 54 2 (([] : List T_api_Field).map e_api_Field)))]⟩) ?_ ?_
      · refine OpsOk.cons rfl (.nilT 8 54 2 (.inl rfl) rfl rfl) ?_
        exact .done (.rf rfl rfl)
      refine Ok.block ?_
      refine Ok.le (σ' := ⟨[(0, (S a0)), (6, (.v (.int .i64 x6_5))), (7, (S (sl a0 t1 x6_5))), (8, (.sref 8))], [(8, (.rows true 54 2 (([] : List T_api_Field).map e_api_Field)))]⟩) (.rf rfl rfl) ?_
      refine Ok.loop (fun m13 σ => ∃ (y8_10 : List T_api_Field) (x6_9 : Int), σ = ⟨[(0, (S a0)), (6, (.v (.int .i64 x6_9))), (7, (S (sl a0 t1 x6_5))), (8, (.sref 8))], [(8, (.rows true 54 2 (y8_10.map e_api_Field)))]⟩ ∧ watchbillref07_ParseType.l0 k a0 t1 x6_5 m13 y8_10 x6_9 = some r) k ⟨([] : List T_api_Field), x6_5, rfl, H⟩ ?_
      rintro m13 σ ⟨y8_10, x6_9, rfl, H⟩
      cases m13 with
      | zero => exact absurd H (by simp [watchbillref07_ParseType.l0])
      | succ m13 =>
        unfold watchbillref07_ParseType.l0 at H
        refine Ok.block ?_
        refine Ok.seq ?_
        obtain ⟨t14, h15, H⟩ := bindE H
        refine Ok.region (σ' := ⟨[(0, (S a0)), (6, (.v (.int .i64 t14))), (7, (S (sl a0 t1 x6_5))), (8, (.sref 8))], [(8, (.rows true 54 2 (y8_10.map e_api_Field)))]⟩) ?_ ?_
        · refine .cv (VOk.mv (d := (S a0)) rfl rfl) rfl rfl ?_
          refine .cv (VOk.mv (d := (.v (.int .i64 x6_9))) rfl rfl) rfl rfl ?_
          refine .cg (GOk.call rfl rfl cl49 rfl (watchbillref07_skip.ok h15) rfl) rfl rfl ?_
          refine .cv (VOk.asg (d := (.v (.int .i64 t14))) rfl rfl) rfl rfl ?_
          exact .done (.rf rfl rfl)
        refine Ok.seq ?_
        refine Ok.seq ?_
        refine Ok.region (σ' := ⟨[(0, (S a0)), (6, (.v (.int .i64 t14))), (7, (S (sl a0 t1 x6_5))), (8, (.sref 8)), (49, (.v (.bool (t14 == (a0.length : Int)))))], [(8, (.rows true 54 2 (y8_10.map e_api_Field)))]⟩) ?_ ?_
        · refine .cv (VOk.mv (d := (.v (.int .i64 t14))) rfl rfl) rfl rfl ?_
          refine .cv (VOk.mv (d := (S a0)) rfl rfl) rfl rfl ?_
          refine .cv (VOk.lenStr (s := a0) rfl Tryd.underlying9 rfl) rfl rfl ?_
          refine .cv (VOk.arith (op := .eql) (k := .i64) (a := t14) (b := (a0.length : Int)) rfl rfl rfl rfl) rfl rfl ?_
          exact .done (.rf rfl rfl)
        refine Ok.test (b := (t14 == (a0.length : Int))) rfl (fun hb46 => ?_) (fun hb46 => ?_)
        · replace H := ifT H hb46
          refine Ok.seq ?_
          obtain ⟨t16, h17, H⟩ := bindE H
          refine Ok.region (σ' := ⟨[(2, (S t16)), (3, (.sref 8)), (4, (.v (.int .i64 0)))], [(8, (.rows true 54 2 (y8_10.map e_api_Field)))]⟩) ?_ ?_
          · refine .cv (VOk.mv (d := (S (sl a0 t1 x6_5))) rfl rfl) rfl rfl ?_
            refine .cg (GOk.call rfl rfl cl26 rfl (watchbillref07_Lower.ok h17) rfl) rfl rfl ?_
            refine .cv (VOk.mv (d := (.sref 8)) rfl rfl) rfl rfl ?_
            refine .cv (VOk.asg (d := (S t16)) rfl rfl) rfl rfl ?_
            refine .cv (VOk.asg (d := (.sref 8)) rfl rfl) rfl rfl ?_
            refine .cv (VOk.asg (d := (.v (.int .i64 0))) rfl rfl) rfl rfl ?_
            exact .done (.rf rfl rfl)
          refine Ok.frzL 8 (e := e_api_Field) (xs := y8_10) rfl ?_
          refine Ok.ret ?_
          obtain rfl := Option.some.inj H
          exact ⟨.inl rfl, ⟨_, (.cons (.tmp rfl) (.cons (.tmp rfl) (.cons (.tmp rfl) .nil))), rfl⟩, trivial⟩
        · replace H := ifF H hb46
          refine Ok.skip ?_
          refine Ok.seq ?_
          refine Ok.seq ?_
          obtain ⟨c18, H⟩ := assertE H
          refine Ok.region (σ' := ⟨[(0, (S a0)), (6, (.v (.int .i64 t14))), (7, (S (sl a0 t1 x6_5))), (8, (.sref 8)), (56, (.v (.bool ((bt a0 t14) != 59))))], [(8, (.rows true 54 2 (y8_10.map e_api_Field)))]⟩) ?_ ?_
          · refine .cv (VOk.mv (d := (S a0)) rfl rfl) rfl rfl ?_
            refine .cv (VOk.mv (d := (.v (.int .i64 t14))) rfl rfl) rfl rfl ?_
            refine .cv (VOk.indexStr (s := a0) (i := t14) rfl Tryd.underlying9 rfl rfl c18) rfl rfl ?_
            refine .cv (VOk.arith (op := .neq) (k := .u8) (a := (bt a0 t14)) (b := 59) rfl rfl rfl rfl) rfl rfl ?_
            exact .done (.rf rfl rfl)
          refine Ok.test (b := ((bt a0 t14) != 59)) rfl (fun hb45 => ?_) (fun hb45 => ?_)
          · replace H := ifT H hb45
            refine Ok.seq ?_
            refine Ok.region (σ' := ⟨[(2, (S ([] : Str))), (3, (.v (.slice none 0 0))), (4, (.v (.int .i64 4)))], []⟩) ?_ ?_
            · refine .cv (VOk.asg (d := (S ([] : Str))) rfl rfl) rfl rfl ?_
              refine .cv (VOk.asg (d := (.v (.slice none 0 0))) rfl rfl) rfl rfl ?_
              refine .cv (VOk.asg (d := (.v (.int .i64 4))) rfl rfl) rfl rfl ?_
              exact .done (.rf rfl rfl)
            refine Ok.le (σ' := ⟨[(2, (S ([] : Str))), (3, (L 2 e_api_Field ([] : List T_api_Field))), (4, (.v (.int .i64 4)))], []⟩) (.mk ⟨.same _, .nil _, .same _, trivial⟩ trivial) ?_
            refine Ok.ret ?_
            obtain rfl := Option.some.inj H
            exact ⟨.inl rfl, ⟨_, (.cons (.tmp rfl) (.cons (.tmp rfl) (.cons (.tmp rfl) .nil))), rfl⟩, trivial⟩
          · replace H := ifF H hb45
            refine Ok.skip ?_
            refine Ok.seq ?_
            obtain ⟨t19, h20, H⟩ := bindE H
            refine Ok.region (σ' := ⟨[(0, (S a0)), (7, (S (sl a0 t1 x6_5))), (8, (.sref 8)), (9, (.v (.int .i64 t19)))], [(8, (.rows true 54 2 (y8_10.map e_api_Field)))]⟩) ?_ ?_
            · refine .cv (VOk.mv (d := (S a0)) rfl rfl) rfl rfl ?_
              refine .cv (VOk.mv (d := (.v (.int .i64 t14))) rfl rfl) rfl rfl ?_
              refine .cv (VOk.arith (op := .add) (k := .i64) (a := t14) (b := 1) rfl rfl rfl rfl) rfl rfl ?_
              refine .cg (GOk.call rfl rfl cl49 rfl (watchbillref07_skip.ok h20) rfl) rfl rfl ?_
              refine .cv (VOk.asg (d := (.v (.int .i64 t19))) rfl rfl) rfl rfl ?_
              exact .done (.rf rfl rfl)
            refine Ok.seq ?_
            obtain ⟨t21, h22, H⟩ := bindE H
            refine Ok.region (σ' := ⟨[(0, (S a0)), (7, (S (sl a0 t1 x6_5))), (8, (.sref 8)), (9, (.v (.int .i64 t19))), (10, (.v (.int .i64 t21)))], [(8, (.rows true 54 2 (y8_10.map e_api_Field)))]⟩) ?_ ?_
            · refine .cv (VOk.mv (d := (S a0)) rfl rfl) rfl rfl ?_
              refine .cv (VOk.mv (d := (.v (.int .i64 t19))) rfl rfl) rfl rfl ?_
              refine .cg (GOk.call rfl rfl cl50 rfl (watchbillref07_run.ok h22) rfl) rfl rfl ?_
              refine .cv (VOk.asg (d := (.v (.int .i64 t21))) rfl rfl) rfl rfl ?_
              exact .done (.rf rfl rfl)
            refine Ok.seq ?_
            obtain ⟨t23, h24, H⟩ := bindE H
            refine Ok.region (σ' := ⟨[(0, (S a0)), (7, (S (sl a0 t1 x6_5))), (8, (.sref 8)), (9, (.v (.int .i64 t19))), (10, (.v (.int .i64 t21))), (11, (.v (.int .i64 t23)))], [(8, (.rows true 54 2 (y8_10.map e_api_Field)))]⟩) ?_ ?_
            · refine .cv (VOk.mv (d := (S a0)) rfl rfl) rfl rfl ?_
              refine .cv (VOk.mv (d := (.v (.int .i64 t21))) rfl rfl) rfl rfl ?_
              refine .cg (GOk.call rfl rfl cl49 rfl (watchbillref07_skip.ok h24) rfl) rfl rfl ?_
              refine .cv (VOk.asg (d := (.v (.int .i64 t23))) rfl rfl) rfl rfl ?_
              exact .done (.rf rfl rfl)
            refine Ok.seq ?_
            refine Ok.seq ?_
            obtain ⟨c28, H⟩ := assertE H
            refine Ok.region (σ' := ⟨[(0, (S a0)), (7, (S (sl a0 t1 x6_5))), (8, (.sref 8)), (9, (.v (.int .i64 t19))), (10, (.v (.int .i64 t21))), (11, (.v (.int .i64 t23))), (81, (.v (.bool (((t21 == t19) || (decide (t23 ≥ (a0.length : Int)))) || ((bt a0 t23) != 61)))))], [(8, (.rows true 54 2 (y8_10.map e_api_Field)))]⟩) ?_ ?_
            · refine .cv (VOk.mv (d := (.v (.int .i64 t21))) rfl rfl) rfl rfl ?_
              refine .cv (VOk.mv (d := (.v (.int .i64 t19))) rfl rfl) rfl rfl ?_
              refine .cv (VOk.arith (op := .eql) (k := .i64) (a := t21) (b := t19) rfl rfl rfl rfl) rfl rfl ?_
              refine .cv (VOk.mv (d := (.v (.bool (t21 == t19)))) rfl rfl) rfl rfl ?_
              refine OpsOk.consI rfl rfl rfl (.one rfl) rfl (fun hw25 => (VOk.g (VOk.mv (d := (.v (.int .i64 t23))) rfl rfl))) ?_
              refine OpsOk.consI rfl rfl rfl (.one rfl) rfl (fun hw25 => (VOk.g (VOk.mv (d := (S a0)) rfl rfl))) ?_
              refine OpsOk.consI rfl rfl rfl (.one rfl) rfl (fun hw25 => (GOk.fr (fr' := [(72, (S a0))]) ⟨DLe.of_eq (cT hw25).symm, trivial⟩ (VOk.g (VOk.lenStr (s := a0) rfl Tryd.underlying9 rfl)))) ?_
              refine OpsOk.consI rfl rfl rfl (.one rfl) rfl (fun hw25 => (GOk.fr (fr' := [(71, (.v (.int .i64 t23))), (73, (.v (.int .i64 (a0.length : Int))))]) ⟨DLe.of_eq (cT hw25).symm, DLe.of_eq (cT hw25).symm, trivial⟩ (VOk.g (VOk.arith (op := .geq) (k := .i64) (a := t23) (b := (a0.length : Int)) rfl rfl rfl rfl)))) ?_
              refine .cv (VOk.to (VOk.pickI (b := (t21 == t19)) (p := true) (q := (decide (t23 ≥ (a0.length : Int)))) rfl rfl (fun hp26 => rfl) (fun hp26 => (cT (f_beq hp26)))) (pickOr (t21 == t19) (decide (t23 ≥ (a0.length : Int))))) rfl rfl ?_
              refine .cv (VOk.mv (d := (.v (.bool ((t21 == t19) || (decide (t23 ≥ (a0.length : Int))))))) rfl rfl) rfl rfl ?_
              refine OpsOk.consI rfl rfl rfl (.one rfl) rfl (fun hw27 => (VOk.g (VOk.mv (d := (S a0)) rfl rfl))) ?_
              refine OpsOk.consI rfl rfl rfl (.one rfl) rfl (fun hw27 => (VOk.g (VOk.mv (d := (.v (.int .i64 t23))) rfl rfl))) ?_
              refine OpsOk.consI rfl rfl rfl (.one rfl) rfl (fun hw27 => (GOk.fr (fr' := [(77, (S a0)), (78, (.v (.int .i64 t23)))]) ⟨DLe.of_eq (cT hw27).symm, DLe.of_eq (cT hw27).symm, trivial⟩ (VOk.g (VOk.indexStr (s := a0) (i := t23) rfl Tryd.underlying9 rfl rfl (c28 hw27))))) ?_
              refine OpsOk.consI rfl rfl rfl (.one rfl) rfl (fun hw27 => (GOk.fr (fr' := [(79, (.v (.int .u8 (bt a0 t23))))]) ⟨DLe.of_eq (cT hw27).symm, trivial⟩ (VOk.g (VOk.arith (op := .neq) (k := .u8) (a := (bt a0 t23)) (b := 61) rfl rfl rfl rfl)))) ?_
              refine .cv (VOk.to (VOk.pickI (b := ((t21 == t19) || (decide (t23 ≥ (a0.length : Int))))) (p := true) (q := ((bt a0 t23) != 61)) rfl rfl (fun hp29 => rfl) (fun hp29 => (cT (f_beq hp29)))) (pickOr ((t21 == t19) || (decide (t23 ≥ (a0.length : Int)))) ((bt a0 t23) != 61))) rfl rfl ?_
              exact .done (.rf rfl rfl)
            refine Ok.test (b := (((t21 == t19) || (decide (t23 ≥ (a0.length : Int)))) || ((bt a0 t23) != 61))) rfl (fun hb44 => ?_) (fun hb44 => ?_)
            · replace H := ifT H hb44
              refine Ok.seq ?_
              refine Ok.region (σ' := ⟨[(2, (S ([] : Str))), (3, (.v (.slice none 0 0))), (4, (.v (.int .i64 4)))], []⟩) ?_ ?_
              · refine .cv (VOk.asg (d := (S ([] : Str))) rfl rfl) rfl rfl ?_
                refine .cv (VOk.asg (d := (.v (.slice none 0 0))) rfl rfl) rfl rfl ?_
                refine .cv (VOk.asg (d := (.v (.int .i64 4))) rfl rfl) rfl rfl ?_
                exact .done (.rf rfl rfl)
              refine Ok.le (σ' := ⟨[(2, (S ([] : Str))), (3, (L 2 e_api_Field ([] : List T_api_Field))), (4, (.v (.int .i64 4)))], []⟩) (.mk ⟨.same _, .nil _, .same _, trivial⟩ trivial) ?_
              refine Ok.ret ?_
              obtain rfl := Option.some.inj H
              exact ⟨.inl rfl, ⟨_, (.cons (.tmp rfl) (.cons (.tmp rfl) (.cons (.tmp rfl) .nil))), rfl⟩, trivial⟩
            · replace H := ifF H hb44
              refine Ok.skip ?_
              refine Ok.seq ?_
              obtain ⟨t30, h31, H⟩ := bindE H
              obtain ⟨t32, h33, H⟩ := bindE H
              refine Ok.region (σ' := ⟨[(0, (S a0)), (7, (S (sl a0 t1 x6_5))), (8, (.sref 8)), (9, (.v (.int .i64 t19))), (10, (.v (.int .i64 t21))), (12, (S t32.1)), (13, (.v (.int .i64 t32.2.1))), (14, (.v (.bool t32.2.2)))], [(8, (.rows true 54 2 (y8_10.map e_api_Field)))]⟩) ?_ ?_
              · refine .cv (VOk.mv (d := (S a0)) rfl rfl) rfl rfl ?_
                refine .cv (VOk.mv (d := (S a0)) rfl rfl) rfl rfl ?_
                refine .cv (VOk.mv (d := (.v (.int .i64 t23))) rfl rfl) rfl rfl ?_
                refine .cv (VOk.arith (op := .add) (k := .i64) (a := t23) (b := 1) rfl rfl rfl rfl) rfl rfl ?_
                refine .cg (GOk.call rfl rfl cl49 rfl (watchbillref07_skip.ok h31) rfl) rfl rfl ?_
                refine .cg (GOk.call rfl rfl cl51 rfl (watchbillref07_value.ok h33) rfl) rfl rfl ?_
                refine .cv (VOk.mv (d := (.tup [(S t32.1), (.v (.int .i64 t32.2.1)), (.v (.bool t32.2.2))])) rfl rfl) rfl rfl ?_
                refine .cv (VOk.extract (d := (S t32.1)) rfl rfl rfl) rfl rfl ?_
                refine .cv (VOk.extract (d := (.v (.int .i64 t32.2.1))) rfl rfl rfl) rfl rfl ?_
                refine .cv (VOk.extract (d := (.v (.bool t32.2.2))) rfl rfl rfl) rfl rfl ?_
                refine .cv (VOk.asg (d := (S t32.1)) rfl rfl) rfl rfl ?_
                refine .cv (VOk.asg (d := (.v (.int .i64 t32.2.1))) rfl rfl) rfl rfl ?_
                refine .cv (VOk.asg (d := (.v (.bool t32.2.2))) rfl rfl) rfl rfl ?_
                exact .done (.rf rfl rfl)
              refine Ok.seq ?_
              refine Ok.seq ?_
              obtain ⟨c34, H⟩ := assertE H
              obtain ⟨t35, h36, H⟩ := bindE H
              refine Ok.region (σ' := ⟨[(0, (S a0)), (7, (S (sl a0 t1 x6_5))), (8, (.sref 8)), (9, (.v (.int .i64 t19))), (10, (.v (.int .i64 t21))), (12, (S t32.1)), (13, (.v (.int .i64 t32.2.1))), (14, (.v (.bool t32.2.2))), (16, (.v (.bool t35.2)))], [(8, (.rows true 54 2 (y8_10.map e_api_Field)))]⟩) ?_ ?_
              · refine .cv (VOk.mv (d := (.sref 8)) rfl rfl) rfl rfl ?_
                refine .cv (VOk.mv (d := (S a0)) rfl rfl) rfl rfl ?_
                refine .cv (VOk.mv (d := (.v (.int .i64 t19))) rfl rfl) rfl rfl ?_
                refine .cv (VOk.mv (d := (.v (.int .i64 t21))) rfl rfl) rfl rfl ?_
                refine .cv (VOk.sliceStr (s := a0) (l := t19) (h := t21) rfl Tryd.underlying9 rfl rfl rfl c34) rfl rfl ?_
                refine .cg (GOk.callV rfl rfl cl24 rfl (watchbillref07_Param.ok h36) rfl) rfl rfl ?_
                refine .cv (VOk.mv (d := (.tup [(S t35.1), (.v (.bool t35.2))])) rfl rfl) rfl rfl ?_
                refine .cv (VOk.extract (d := (S t35.1)) rfl rfl rfl) rfl rfl ?_
                refine .cv (VOk.extract (d := (.v (.bool t35.2))) rfl rfl rfl) rfl rfl ?_
                refine .cv (VOk.asg (d := (S t35.1)) rfl rfl) rfl rfl ?_
                refine .cv (VOk.asg (d := (.v (.bool t35.2))) rfl rfl) rfl rfl ?_
                exact .done (.rf rfl rfl)
              refine Ok.seq ?_
              refine Ok.region (σ' := ⟨[(0, (S a0)), (7, (S (sl a0 t1 x6_5))), (8, (.sref 8)), (9, (.v (.int .i64 t19))), (10, (.v (.int .i64 t21))), (12, (S t32.1)), (13, (.v (.int .i64 t32.2.1))), (105, (.v (.bool ((!t32.2.2) || t35.2))))], [(8, (.rows true 54 2 (y8_10.map e_api_Field)))]⟩) ?_ ?_
              · refine .cv (VOk.mv (d := (.v (.bool t32.2.2))) rfl rfl) rfl rfl ?_
                refine .cv (VOk.not (b := t32.2.2) rfl rfl) rfl rfl ?_
                refine .cv (VOk.mv (d := (.v (.bool (!t32.2.2)))) rfl rfl) rfl rfl ?_
                refine OpsOk.consI rfl rfl rfl (.one rfl) rfl (fun hw37 => (VOk.g (VOk.mv (d := (.v (.bool t35.2))) rfl rfl))) ?_
                refine .cv (VOk.to (VOk.pickI (b := (!t32.2.2)) (p := true) (q := t35.2) rfl rfl (fun hp38 => rfl) (fun hp38 => (cT (f_beq hp38)))) (pickOr (!t32.2.2) t35.2)) rfl rfl ?_
                exact .done (.rf rfl rfl)
              refine Ok.test (b := ((!t32.2.2) || t35.2)) rfl (fun hb43 => ?_) (fun hb43 => ?_)
              · replace H := ifT H hb43
                refine Ok.seq ?_
                refine Ok.region (σ' := ⟨[(2, (S ([] : Str))), (3, (.v (.slice none 0 0))), (4, (.v (.int .i64 4)))], []⟩) ?_ ?_
                · refine .cv (VOk.asg (d := (S ([] : Str))) rfl rfl) rfl rfl ?_
                  refine .cv (VOk.asg (d := (.v (.slice none 0 0))) rfl rfl) rfl rfl ?_
                  refine .cv (VOk.asg (d := (.v (.int .i64 4))) rfl rfl) rfl rfl ?_
                  exact .done (.rf rfl rfl)
                refine Ok.le (σ' := ⟨[(2, (S ([] : Str))), (3, (L 2 e_api_Field ([] : List T_api_Field))), (4, (.v (.int .i64 4)))], []⟩) (.mk ⟨.same _, .nil _, .same _, trivial⟩ trivial) ?_
                refine Ok.ret ?_
                obtain rfl := Option.some.inj H
                exact ⟨.inl rfl, ⟨_, (.cons (.tmp rfl) (.cons (.tmp rfl) (.cons (.tmp rfl) .nil))), rfl⟩, trivial⟩
              · replace H := ifF H hb43
                refine Ok.skip ?_
                refine Ok.seq ?_
                obtain ⟨c39, H⟩ := assertE H
                obtain ⟨t40, h41, H⟩ := bindE H
                obtain ⟨c42, H⟩ := assertE H
                refine Ok.region (σ' := ⟨[(0, (S a0)), (7, (S (sl a0 t1 x6_5))), (8, (.sref 8)), (13, (.v (.int .i64 t32.2.1)))], [(8, (.rows true 54 2 ((y8_10 ++ ([(T_api_Field.mk t40 t32.1)] : List T_api_Field)).map e_api_Field)))]⟩) ?_ ?_
                · refine .cv (VOk.mv (d := (.sref 8)) rfl rfl) rfl rfl ?_
                  refine .cv (VOk.mv (d := (S a0)) rfl rfl) rfl rfl ?_
                  refine .cv (VOk.mv (d := (.v (.int .i64 t19))) rfl rfl) rfl rfl ?_
                  refine .cv (VOk.mv (d := (.v (.int .i64 t21))) rfl rfl) rfl rfl ?_
                  refine .cv (VOk.sliceStr (s := a0) (l := t19) (h := t21) rfl Tryd.underlying9 rfl rfl rfl c39) rfl rfl ?_
                  refine .cg (GOk.call rfl rfl cl26 rfl (watchbillref07_Lower.ok h41) rfl) rfl rfl ?_
                  refine .cv (VOk.mv (d := (S t32.1)) rfl rfl) rfl rfl ?_
                  refine .cv (VOk.to (d' := (.agg (e_api_Field (T_api_Field.mk t40 t32.1)))) (.build [none, none] [(0, 1), (1, 1)] rfl Tryd.underlying54 (fa54 Tryd.underlying54) zo54 rfl rfl) rfl) rfl rfl ?_
                  refine .cg (GOk.to (d' := (L 2 e_api_Field ([(T_api_Field.mk t40 t32.1)] : List T_api_Field))) (GOk.lit rfl Tryd.underlying42 sz54 zs54 rfl rfl rfl rfl) rfl) rfl rfl ?_
                  refine OpsOk.cons rfl (OpOk.appendL (e := e_api_Field) (xs := y8_10) (ys := ([(T_api_Field.mk t40 t32.1)] : List T_api_Field)) rfl Tryd.underlying42 elt54 rfl rfl rfl c42 rfl) ?_
                  refine .cv (VOk.asg (d := (.sref 8)) rfl rfl) rfl rfl ?_
                  exact .done (.rf rfl rfl)
                refine Ok.region (σ' := ⟨[(0, (S a0)), (6, (.v (.int .i64 t32.2.1))), (7, (S (sl a0 t1 x6_5))), (8, (.sref 8))], [(8, (.rows true 54 2 ((y8_10 ++ ([(T_api_Field.mk t40 t32.1)] : List T_api_Field)).map e_api_Field)))]⟩) ?_ ?_
                · refine .cv (VOk.mv (d := (.v (.int .i64 t32.2.1))) rfl rfl) rfl rfl ?_
                  refine .cv (VOk.asg (d := (.v (.int .i64 t32.2.1))) rfl rfl) rfl rfl ?_
                  exact .done (.rf rfl rfl)
                exact ⟨m13, Nat.lt_succ_self m13, (y8_10 ++ ([(T_api_Field.mk t40 t32.1)] : List T_api_Field)), t32.2.1, rfl, H⟩

/-! watchbill/watchbillref07.Params: function 25 -/
def watchbillref07_Params.l0 (k : Nat) (a0 : List T_api_Field) (a1 : List T_api_Field) : Nat → Int → Option Bool
  | 0, _ => none
  | m3 + 1, x5_1 => (if (decide (x5_1 < (a0.length : Int))) = true then (if (0 : Int) ≤ x5_1 ∧ x5_1 < (a0.length : Int) then (if (0 : Int) ≤ x5_1 ∧ x5_1 < (a1.length : Int) then (if (!((rd a0 x5_1).Name == (rd a1 x5_1).Name && ((rd a0 x5_1).Value == (rd a1 x5_1).Value && true))) = true then some false else watchbillref07_Params.l0 k a0 a1 m3 (IntKind.i64.wrap (x5_1 + 1))) else none) else none) else some true)
def watchbillref07_Params (k : Nat) (a0 : List T_api_Field) (a1 : List T_api_Field) : Option Bool := (if ((a0.length : Int) != (a1.length : Int)) = true then some false else watchbillref07_Params.l0 k a0 a1 k 0)
theorem watchbillref07_Params.ok {k : Nat} {a0 : List T_api_Field} {a1 : List T_api_Field} {r : Bool} (H : watchbillref07_Params k a0 a1 = some r) : Vx.Fn Tryd.prog 25 [(L 2 e_api_Field a0), (L 2 e_api_Field a1)] [] (.v (.bool r)) [] := by
  unfold watchbillref07_Params at H
  refine Vx.Fn.of_okR Tryd.func25 rfl (Nat.le_of_ble_eq_true rfl) ?_
  refine Ok.seq ?_
  refine Ok.region (σ' := ⟨[(0, (L 2 e_api_Field a0)), (1, (L 2 e_api_Field a1))], []⟩) ?_ ?_
  · refine .cv (VOk.asg (d := (.v (.bool false))) rfl rfl) rfl rfl ?_
    exact .done (.rf rfl rfl)
  refine Ok.seq ?_
  refine Ok.seq ?_
  refine Ok.region (σ' := ⟨[(0, (L 2 e_api_Field a0)), (1, (L 2 e_api_Field a1)), (10, (.v (.bool ((a0.length : Int) != (a1.length : Int)))))], []⟩) ?_ ?_
  · refine .cv (VOk.mv (d := (L 2 e_api_Field a0)) rfl rfl) rfl rfl ?_
    refine .cv (VOk.lenL (e := e_api_Field) (xs := a0) rfl Tryd.underlying42 rfl) rfl rfl ?_
    refine .cv (VOk.mv (d := (L 2 e_api_Field a1)) rfl rfl) rfl rfl ?_
    refine .cv (VOk.lenL (e := e_api_Field) (xs := a1) rfl Tryd.underlying42 rfl) rfl rfl ?_
    refine .cv (VOk.arith (op := .neq) (k := .i64) (a := (a0.length : Int)) (b := (a1.length : Int)) rfl rfl rfl rfl) rfl rfl ?_
    exact .done (.rf rfl rfl)
  refine Ok.test (b := ((a0.length : Int) != (a1.length : Int))) rfl (fun hb8 => ?_) (fun hb8 => ?_)
  · replace H := ifT H hb8
    refine Ok.seq ?_
    refine Ok.region (σ' := ⟨[(4, (.v (.bool false)))], []⟩) ?_ ?_
    · refine .cv (VOk.asg (d := (.v (.bool false))) rfl rfl) rfl rfl ?_
      exact .done (.rf rfl rfl)
    refine Ok.ret ?_
    obtain rfl := Option.some.inj H
    exact ⟨.inl rfl, ⟨_, (.cons (.tmp rfl) .nil), rfl⟩, trivial⟩
  · replace H := ifF H hb8
    refine Ok.skip ?_
    refine Ok.seq ?_
    refine Ok.seq ?_
    refine Ok.region (σ' := ⟨[(0, (L 2 e_api_Field a0)), (1, (L 2 e_api_Field a1)), (5, (.v (.int .i64 0)))], []⟩) ?_ ?_
    · refine .cv (VOk.asg (d := (.v (.int .i64 0))) rfl rfl) rfl rfl ?_
      exact .done (.rf rfl rfl)
    refine Ok.block ?_
    refine Ok.le (σ' := ⟨[(0, (L 2 e_api_Field a0)), (1, (L 2 e_api_Field a1)), (5, (.v (.int .i64 0)))], []⟩) (.rf rfl rfl) ?_
    refine Ok.loop (fun m3 σ => ∃ (x5_1 : Int), σ = ⟨[(0, (L 2 e_api_Field a0)), (1, (L 2 e_api_Field a1)), (5, (.v (.int .i64 x5_1)))], []⟩ ∧ watchbillref07_Params.l0 k a0 a1 m3 x5_1 = some r) k ⟨0, rfl, H⟩ ?_
    rintro m3 σ ⟨x5_1, rfl, H⟩
    cases m3 with
    | zero => exact absurd H (by simp [watchbillref07_Params.l0])
    | succ m3 =>
      unfold watchbillref07_Params.l0 at H
      refine Ok.seq ?_
      refine Ok.seq ?_
      refine Ok.region (σ' := ⟨[(0, (L 2 e_api_Field a0)), (1, (L 2 e_api_Field a1)), (5, (.v (.int .i64 x5_1))), (14, (.v (.bool (decide (x5_1 < (a0.length : Int))))))], []⟩) ?_ ?_
      · refine .cv (VOk.mv (d := (.v (.int .i64 x5_1))) rfl rfl) rfl rfl ?_
        refine .cv (VOk.mv (d := (L 2 e_api_Field a0)) rfl rfl) rfl rfl ?_
        refine .cv (VOk.lenL (e := e_api_Field) (xs := a0) rfl Tryd.underlying42 rfl) rfl rfl ?_
        refine .cv (VOk.arith (op := .lss) (k := .i64) (a := x5_1) (b := (a0.length : Int)) rfl rfl rfl rfl) rfl rfl ?_
        exact .done (.rf rfl rfl)
      refine Ok.test (b := (decide (x5_1 < (a0.length : Int)))) rfl (fun hb7 => ?_) (fun hb7 => ?_)
      · replace H := ifT H hb7
        refine Ok.skip ?_
        refine Ok.seq ?_
        refine Ok.block ?_
        refine Ok.seq ?_
        obtain ⟨c4, H⟩ := assertE H
        obtain ⟨c5, H⟩ := assertE H
        refine Ok.drawE (σ' := ⟨[(0, (L 2 e_api_Field a0)), (1, (L 2 e_api_Field a1)), (5, (.v (.int .i64 x5_1))), (25, (.v (.bool (!((rd a0 x5_1).Name == (rd a1 x5_1).Name && ((rd a0 x5_1).Value == (rd a1 x5_1).Value && true))))))], []⟩) [⟨true, [(0, (L 2 e_api_Field a0))], (L 2 e_api_Field a0)⟩, ⟨true, [(5, (.v (.int .i64 x5_1)))], (.v (.int .i64 x5_1))⟩, ⟨true, [(17, (L 2 e_api_Field a0)), (18, (.v (.int .i64 x5_1)))], (.fp (e_api_Field (rd a0 x5_1)) 0)⟩, ⟨true, [(19, (.fp (e_api_Field (rd a0 x5_1)) 0))], (.agg (e_api_Field (rd a0 x5_1)))⟩, ⟨true, [(1, (L 2 e_api_Field a1))], (L 2 e_api_Field a1)⟩, ⟨true, [(5, (.v (.int .i64 x5_1)))], (.v (.int .i64 x5_1))⟩, ⟨true, [(21, (L 2 e_api_Field a1)), (22, (.v (.int .i64 x5_1)))], (.fp (e_api_Field (rd a1 x5_1)) 0)⟩, ⟨true, [(23, (.fp (e_api_Field (rd a1 x5_1)) 0))], (.agg (e_api_Field (rd a1 x5_1)))⟩, ⟨true, [(20, (.agg (e_api_Field (rd a0 x5_1)))), (24, (.agg (e_api_Field (rd a1 x5_1))))], (.v (.bool (!((rd a0 x5_1).Name == (rd a1 x5_1).Name && ((rd a0 x5_1).Value == (rd a1 x5_1).Value && true)))))⟩] [[], [], [0, 1], [2], [], [], [4, 5], [6], [3, 7]] mixed (by kernel_rfl) ?_ ?_
        · refine TxtE.cons rfl ⟨.same _, trivial⟩ rfl (VOk.g (VOk.mv (d := (L 2 e_api_Field a0)) rfl rfl)) ?_
          refine TxtE.cons rfl ⟨.same _, trivial⟩ rfl (VOk.g (VOk.mv (d := (.v (.int .i64 x5_1))) rfl rfl)) ?_
          refine TxtE.cons rfl ⟨.same _, .same _, trivial⟩ rfl (VOk.g (VOk.indexL (sz := 2) (e := e_api_Field) (xs := a0) (i := x5_1) rfl Tryd.underlying42 sz54 rfl rfl c4)) ?_
          refine TxtE.cons rfl ⟨.same _, trivial⟩ rfl (VOk.g (VOk.to (d' := (.agg (e_api_Field (rd a0 x5_1)))) (.loadFpAgg rfl Tryd.underlying54 rfl sz54 rfl rfl) rfl)) ?_
          refine TxtE.cons rfl ⟨.same _, trivial⟩ rfl (VOk.g (VOk.mv (d := (L 2 e_api_Field a1)) rfl rfl)) ?_
          refine TxtE.cons rfl ⟨.same _, trivial⟩ rfl (VOk.g (VOk.mv (d := (.v (.int .i64 x5_1))) rfl rfl)) ?_
          refine TxtE.cons rfl ⟨.same _, .same _, trivial⟩ rfl (VOk.g (VOk.indexL (sz := 2) (e := e_api_Field) (xs := a1) (i := x5_1) rfl Tryd.underlying42 sz54 rfl rfl c5)) ?_
          refine TxtE.cons rfl ⟨.same _, trivial⟩ rfl (VOk.g (VOk.to (d' := (.agg (e_api_Field (rd a1 x5_1)))) (.loadFpAgg rfl Tryd.underlying54 rfl sz54 rfl rfl) rfl)) ?_
          refine TxtE.cons rfl ⟨.same _, .same _, trivial⟩ rfl (VOk.g (VOk.eqS' (op := .neq) (d := (.v (.bool (!((rd a0 x5_1).Name == (rd a1 x5_1).Name && ((rd a0 x5_1).Value == (rd a1 x5_1).Value && true)))))) rfl (.inr rfl) (eqt54 9998) ag54 eg54 rfl rfl rfl rfl)) ?_
          exact .done (.rf rfl rfl)
        refine Ok.test (b := (!((rd a0 x5_1).Name == (rd a1 x5_1).Name && ((rd a0 x5_1).Value == (rd a1 x5_1).Value && true)))) rfl (fun hb6 => ?_) (fun hb6 => ?_)
        · replace H := ifT H hb6
          refine Ok.seq ?_
          refine Ok.region (σ' := ⟨[(4, (.v (.bool false)))], []⟩) ?_ ?_
          · refine .cv (VOk.asg (d := (.v (.bool false))) rfl rfl) rfl rfl ?_
            exact .done (.rf rfl rfl)
          refine Ok.ret ?_
          obtain rfl := Option.some.inj H
          exact ⟨.inl rfl, ⟨_, (.cons (.tmp rfl) .nil), rfl⟩, trivial⟩
        · replace H := ifF H hb6
          refine Ok.skip ?_
          refine Ok.region (σ' := ⟨[(0, (L 2 e_api_Field a0)), (1, (L 2 e_api_Field a1)), (5, (.v (.int .i64 (IntKind.i64.wrap (x5_1 + 1)))))], []⟩) ?_ ?_
          · refine .cv (VOk.mv (d := (.v (.int .i64 x5_1))) rfl rfl) rfl rfl ?_
            refine .cv (VOk.arith (op := .add) (k := .i64) (a := x5_1) (b := 1) rfl rfl rfl rfl) rfl rfl ?_
            refine .cv (VOk.asg (d := (.v (.int .i64 (IntKind.i64.wrap (x5_1 + 1))))) rfl rfl) rfl rfl ?_
            exact .done (.rf rfl rfl)
          exact ⟨m3, Nat.lt_succ_self m3, (IntKind.i64.wrap (x5_1 + 1)), rfl, H⟩
      · replace H := ifF H hb7
        refine Ok.exit ?_
        refine Ok.seq ?_
        refine Ok.region (σ' := ⟨[(4, (.v (.bool true)))], []⟩) ?_ ?_
        · refine .cv (VOk.asg (d := (.v (.bool true))) rfl rfl) rfl rfl ?_
          exact .done (.rf rfl rfl)
        refine Ok.ret ?_
        obtain rfl := Option.some.inj H
        exact ⟨.inl rfl, ⟨_, (.cons (.tmp rfl) .nil), rfl⟩, trivial⟩

/-! watchbill/watchbilllaw07.FieldTypes: function 6 -/
def watchbilllaw07_FieldTypes (k : Nat) (a0 : Str) (a1 : List T_api_Field) (a2 : Str) (a3 : Str) : Option Bool := ((watchbilllaw07_awake k).bind fun (t1 : Bool) => (if (!t1) = true then some false else (((if ((decide ((a0.length : Int) > 5000)) == false) = true then watchbilllaw07_FewParams k a1 else some default)).bind fun (t4 : Bool) => (if ((((decide ((a0.length : Int) > 5000)) || (!t4)) || (decide ((a2.length : Int) > 5000))) || (decide ((a3.length : Int) > 5000))) = true then some true else (if (([] : List T_api_Field).length + a1.length) * 32 ≤ 140737488355328 then ((field_PrintType k a0 (([] : List T_api_Field) ++ a1)).bind fun (t12 : Str × Int) => ((watchbillref07_PrintType k a0 a1).bind fun (t14 : Str × Int) => ((field_ParseType k a2).bind fun (t16 : Str × (List T_api_Field) × Int) => ((watchbillref07_ParseType k a2).bind fun (t18 : Str × (List T_api_Field) × Int) => ((field_Param k a1 a3).bind fun (t20 : Str × Bool) => ((watchbillref07_Param k a1 a3).bind fun (t22 : Str × Bool) => (((if ((((t12.1 == t14.1) && (t12.2 == t14.2)) && (t16.1 == t18.1)) == true) = true then watchbillref07_Params k t16.2.1 t18.2.1 else some default)).bind fun (t29 : Bool) => some (((((((t12.1 == t14.1) && (t12.2 == t14.2)) && (t16.1 == t18.1)) && t29) && (t16.2.2 == t18.2.2)) && (t20.1 == t22.1)) && (t20.2 == t22.2))))))))) else none)))))
theorem watchbilllaw07_FieldTypes.ok {k : Nat} {a0 : Str} {a1 : List T_api_Field} {a2 : Str} {a3 : Str} {r : Bool} (H : watchbilllaw07_FieldTypes k a0 a1 a2 a3 = some r) : Vx.Fn Tryd.prog 6 [(S a0), (L 2 e_api_Field a1), (S a2), (S a3)] [] (.v (.bool r)) [] := by
  unfold watchbilllaw07_FieldTypes at H
  refine Vx.Fn.of_okR Tryd.func6 rfl (Nat.le_of_ble_eq_true rfl) ?_
  refine Ok.seq ?_
  refine Ok.region (σ' := ⟨[(0, (S a0)), (1, (L 2 e_api_Field a1)), (2, (S a2)), (3, (S a3))], []⟩) ?_ ?_
  · refine .cv (VOk.asg (d := (.v (.bool false))) rfl rfl) rfl rfl ?_
    exact .done (.rf rfl rfl)
  refine Ok.seq ?_
  refine Ok.seq ?_
  obtain ⟨t1, h2, H⟩ := bindE H
  refine Ok.region (σ' := ⟨[(0, (S a0)), (1, (L 2 e_api_Field a1)), (2, (S a2)), (3, (S a3)), (24, (.v (.bool (!t1))))], []⟩) ?_ ?_
  · refine .cg (GOk.call rfl rfl cl8 rfl (watchbilllaw07_awake.ok h2) rfl) rfl rfl ?_
    refine .cv (VOk.not (b := t1) rfl rfl) rfl rfl ?_
    exact .done (.rf rfl rfl)
  refine Ok.test (b := (!t1)) rfl (fun hb39 => ?_) (fun hb39 => ?_)
  · replace H := ifT H hb39
    refine Ok.seq ?_
    refine Ok.region (σ' := ⟨[(8, (.v (.bool false)))], []⟩) ?_ ?_
    · refine .cv (VOk.asg (d := (.v (.bool false))) rfl rfl) rfl rfl ?_
      exact .done (.rf rfl rfl)
    refine Ok.ret ?_
    obtain rfl := Option.some.inj H
    exact ⟨.inl rfl, ⟨_, (.cons (.tmp rfl) .nil), rfl⟩, trivial⟩
  · replace H := ifF H hb39
    refine Ok.skip ?_
    refine Ok.seq ?_
    refine Ok.seq ?_
    obtain ⟨t4, h5, H⟩ := bindE H
    refine Ok.region (σ' := ⟨[(0, (S a0)), (1, (L 2 e_api_Field a1)), (2, (S a2)), (3, (S a3)), (42, (.v (.bool ((((decide ((a0.length : Int) > 5000)) || (!t4)) || (decide ((a2.length : Int) > 5000))) || (decide ((a3.length : Int) > 5000))))))], []⟩) ?_ ?_
    · refine .cv (VOk.mv (d := (S a0)) rfl rfl) rfl rfl ?_
      refine .cv (VOk.lenStr (s := a0) rfl Tryd.underlying9 rfl) rfl rfl ?_
      refine .cv (VOk.arith (op := .gtr) (k := .i64) (a := (a0.length : Int)) (b := 5000) rfl rfl rfl rfl) rfl rfl ?_
      refine .cv (VOk.mv (d := (.v (.bool (decide ((a0.length : Int) > 5000))))) rfl rfl) rfl rfl ?_
      refine OpsOk.consI rfl rfl rfl (.one rfl) rfl (fun hw3 => (VOk.g (VOk.mv (d := (L 2 e_api_Field a1)) rfl rfl))) ?_
      refine OpsOk.consI rfl rfl rfl (.one rfl) rfl (fun hw3 => (GOk.fr (fr' := [(29, (L 2 e_api_Field a1))]) ⟨DLe.of_eq (cT hw3).symm, trivial⟩ (GOk.call rfl rfl cl18 rfl (watchbilllaw07_FewParams.ok (ifT h5 hw3)) rfl))) ?_
      refine OpsOk.consI rfl rfl rfl (.one rfl) rfl (fun hw3 => (GOk.fr (fr' := [(30, (.v (.bool t4)))]) ⟨DLe.of_eq (cT hw3).symm, trivial⟩ (VOk.g (VOk.not (b := t4) rfl rfl)))) ?_
      refine .cv (VOk.to (VOk.pickI (b := (decide ((a0.length : Int) > 5000))) (p := true) (q := (!t4)) rfl rfl (fun hp6 => rfl) (fun hp6 => (cT (f_beq hp6)))) (pickOr (decide ((a0.length : Int) > 5000)) (!t4))) rfl rfl ?_
      refine .cv (VOk.mv (d := (.v (.bool ((decide ((a0.length : Int) > 5000)) || (!t4))))) rfl rfl) rfl rfl ?_
      refine OpsOk.consI rfl rfl rfl (.one rfl) rfl (fun hw7 => (VOk.g (VOk.mv (d := (S a2)) rfl rfl))) ?_
      refine OpsOk.consI rfl rfl rfl (.one rfl) rfl (fun hw7 => (GOk.fr (fr' := [(34, (S a2))]) ⟨DLe.of_eq (cT hw7).symm, trivial⟩ (VOk.g (VOk.lenStr (s := a2) rfl Tryd.underlying9 rfl)))) ?_
      refine OpsOk.consI rfl rfl rfl (.one rfl) rfl (fun hw7 => (GOk.fr (fr' := [(35, (.v (.int .i64 (a2.length : Int))))]) ⟨DLe.of_eq (cT hw7).symm, trivial⟩ (VOk.g (VOk.arith (op := .gtr) (k := .i64) (a := (a2.length : Int)) (b := 5000) rfl rfl rfl rfl)))) ?_
      refine .cv (VOk.to (VOk.pickI (b := ((decide ((a0.length : Int) > 5000)) || (!t4))) (p := true) (q := (decide ((a2.length : Int) > 5000))) rfl rfl (fun hp8 => rfl) (fun hp8 => (cT (f_beq hp8)))) (pickOr ((decide ((a0.length : Int) > 5000)) || (!t4)) (decide ((a2.length : Int) > 5000)))) rfl rfl ?_
      refine .cv (VOk.mv (d := (.v (.bool (((decide ((a0.length : Int) > 5000)) || (!t4)) || (decide ((a2.length : Int) > 5000)))))) rfl rfl) rfl rfl ?_
      refine OpsOk.consI rfl rfl rfl (.one rfl) rfl (fun hw9 => (VOk.g (VOk.mv (d := (S a3)) rfl rfl))) ?_
      refine OpsOk.consI rfl rfl rfl (.one rfl) rfl (fun hw9 => (GOk.fr (fr' := [(39, (S a3))]) ⟨DLe.of_eq (cT hw9).symm, trivial⟩ (VOk.g (VOk.lenStr (s := a3) rfl Tryd.underlying9 rfl)))) ?_
      refine OpsOk.consI rfl rfl rfl (.one rfl) rfl (fun hw9 => (GOk.fr (fr' := [(40, (.v (.int .i64 (a3.length : Int))))]) ⟨DLe.of_eq (cT hw9).symm, trivial⟩ (VOk.g (VOk.arith (op := .gtr) (k := .i64) (a := (a3.length : Int)) (b := 5000) rfl rfl rfl rfl)))) ?_
      refine .cv (VOk.to (VOk.pickI (b := (((decide ((a0.length : Int) > 5000)) || (!t4)) || (decide ((a2.length : Int) > 5000)))) (p := true) (q := (decide ((a3.length : Int) > 5000))) rfl rfl (fun hp10 => rfl) (fun hp10 => (cT (f_beq hp10)))) (pickOr (((decide ((a0.length : Int) > 5000)) || (!t4)) || (decide ((a2.length : Int) > 5000))) (decide ((a3.length : Int) > 5000)))) rfl rfl ?_
      exact .done (.rf rfl rfl)
    refine Ok.test (b := ((((decide ((a0.length : Int) > 5000)) || (!t4)) || (decide ((a2.length : Int) > 5000))) || (decide ((a3.length : Int) > 5000)))) rfl (fun hb38 => ?_) (fun hb38 => ?_)
    · replace H := ifT H hb38
      refine Ok.seq ?_
      refine Ok.region (σ' := ⟨[(8, (.v (.bool true)))], []⟩) ?_ ?_
      · refine .cv (VOk.asg (d := (.v (.bool true))) rfl rfl) rfl rfl ?_
        exact .done (.rf rfl rfl)
      refine Ok.ret ?_
      obtain rfl := Option.some.inj H
      exact ⟨.inl rfl, ⟨_, (.cons (.tmp rfl) .nil), rfl⟩, trivial⟩
    · replace H := ifF H hb38
      refine Ok.skip ?_
      refine Ok.seq ?_
      obtain ⟨c11, H⟩ := assertE H
      obtain ⟨t12, h13, H⟩ := bindE H
      refine Ok.region (σ' := ⟨[(0, (S a0)), (1, (L 2 e_api_Field a1)), (2, (S a2)), (3, (S a3)), (9, (S t12.1)), (10, (.v (.int .i64 t12.2)))], []⟩) ?_ ?_
      · refine .cv (VOk.mv (d := (S a0)) rfl rfl) rfl rfl ?_
        refine .cg (GOk.to (d' := (.clist 2 (List.map e_api_Field ([] : List T_api_Field)))) (GOk.litC rfl Tryd.underlying42 sz54 zs54 rfl rfl rfl rfl) rfl) rfl rfl ?_
        refine .cv (VOk.mv (d := (L 2 e_api_Field a1)) rfl rfl) rfl rfl ?_
        refine .cg (GOk.appendC (e := e_api_Field) (xs := ([] : List T_api_Field)) (ys := a1) rfl Tryd.underlying42 elt54 (.same _) rfl c11) rfl rfl ?_
        refine .cg (GOk.call rfl rfl cl19 rfl (field_PrintType.ok h13) rfl) rfl rfl ?_
        refine .cv (VOk.mv (d := (.tup [(S t12.1), (.v (.int .i64 t12.2))])) rfl rfl) rfl rfl ?_
        refine .cv (VOk.extract (d := (S t12.1)) rfl rfl rfl) rfl rfl ?_
        refine .cv (VOk.extract (d := (.v (.int .i64 t12.2))) rfl rfl rfl) rfl rfl ?_
        refine .cv (VOk.asg (d := (S t12.1)) rfl rfl) rfl rfl ?_
        refine .cv (VOk.asg (d := (.v (.int .i64 t12.2))) rfl rfl) rfl rfl ?_
        exact .done (.rf rfl rfl)
      refine Ok.seq ?_
      obtain ⟨t14, h15, H⟩ := bindE H
      refine Ok.region (σ' := ⟨[(1, (L 2 e_api_Field a1)), (2, (S a2)), (3, (S a3)), (9, (S t12.1)), (10, (.v (.int .i64 t12.2))), (11, (S t14.1)), (12, (.v (.int .i64 t14.2)))], []⟩) ?_ ?_
      · refine .cv (VOk.mv (d := (S a0)) rfl rfl) rfl rfl ?_
        refine .cv (VOk.mv (d := (L 2 e_api_Field a1)) rfl rfl) rfl rfl ?_
        refine .cg (GOk.call rfl rfl cl20 rfl (watchbillref07_PrintType.ok h15) rfl) rfl rfl ?_
        refine .cv (VOk.mv (d := (.tup [(S t14.1), (.v (.int .i64 t14.2))])) rfl rfl) rfl rfl ?_
        refine .cv (VOk.extract (d := (S t14.1)) rfl rfl rfl) rfl rfl ?_
        refine .cv (VOk.extract (d := (.v (.int .i64 t14.2))) rfl rfl rfl) rfl rfl ?_
        refine .cv (VOk.asg (d := (S t14.1)) rfl rfl) rfl rfl ?_
        refine .cv (VOk.asg (d := (.v (.int .i64 t14.2))) rfl rfl) rfl rfl ?_
        exact .done (.rf rfl rfl)
      refine Ok.seq ?_
      obtain ⟨t16, h17, H⟩ := bindE H
      refine Ok.region (σ' := ⟨[(1, (L 2 e_api_Field a1)), (2, (S a2)), (3, (S a3)), (9, (S t12.1)), (10, (.v (.int .i64 t12.2))), (11, (S t14.1)), (12, (.v (.int .i64 t14.2))), (13, (S t16.1)), (14, (L 2 e_api_Field t16.2.1)), (15, (.v (.int .i64 t16.2.2)))], []⟩) ?_ ?_
      · refine .cv (VOk.mv (d := (S a2)) rfl rfl) rfl rfl ?_
        refine .cg (GOk.call rfl rfl cl21 rfl (field_ParseType.ok h17) rfl) rfl rfl ?_
        refine .cv (VOk.mv (d := (.tup [(S t16.1), (L 2 e_api_Field t16.2.1), (.v (.int .i64 t16.2.2))])) rfl rfl) rfl rfl ?_
        refine .cv (VOk.extract (d := (S t16.1)) rfl rfl rfl) rfl rfl ?_
        refine .cv (VOk.extract (d := (L 2 e_api_Field t16.2.1)) rfl rfl rfl) rfl rfl ?_
        refine .cv (VOk.extract (d := (.v (.int .i64 t16.2.2))) rfl rfl rfl) rfl rfl ?_
        refine .cv (VOk.asg (d := (S t16.1)) rfl rfl) rfl rfl ?_
        refine .cv (VOk.asg (d := (L 2 e_api_Field t16.2.1)) rfl rfl) rfl rfl ?_
        refine .cv (VOk.asg (d := (.v (.int .i64 t16.2.2))) rfl rfl) rfl rfl ?_
        exact .done (.rf rfl rfl)
      refine Ok.seq ?_
      obtain ⟨t18, h19, H⟩ := bindE H
      refine Ok.region (σ' := ⟨[(1, (L 2 e_api_Field a1)), (3, (S a3)), (9, (S t12.1)), (10, (.v (.int .i64 t12.2))), (11, (S t14.1)), (12, (.v (.int .i64 t14.2))), (13, (S t16.1)), (14, (L 2 e_api_Field t16.2.1)), (15, (.v (.int .i64 t16.2.2))), (16, (S t18.1)), (17, (L 2 e_api_Field t18.2.1)), (18, (.v (.int .i64 t18.2.2)))], []⟩) ?_ ?_
      · refine .cv (VOk.mv (d := (S a2)) rfl rfl) rfl rfl ?_
        refine .cg (GOk.call rfl rfl cl22 rfl (watchbillref07_ParseType.ok h19) rfl) rfl rfl ?_
        refine .cv (VOk.mv (d := (.tup [(S t18.1), (L 2 e_api_Field t18.2.1), (.v (.int .i64 t18.2.2))])) rfl rfl) rfl rfl ?_
        refine .cv (VOk.extract (d := (S t18.1)) rfl rfl rfl) rfl rfl ?_
        refine .cv (VOk.extract (d := (L 2 e_api_Field t18.2.1)) rfl rfl rfl) rfl rfl ?_
        refine .cv (VOk.extract (d := (.v (.int .i64 t18.2.2))) rfl rfl rfl) rfl rfl ?_
        refine .cv (VOk.asg (d := (S t18.1)) rfl rfl) rfl rfl ?_
        refine .cv (VOk.asg (d := (L 2 e_api_Field t18.2.1)) rfl rfl) rfl rfl ?_
        refine .cv (VOk.asg (d := (.v (.int .i64 t18.2.2))) rfl rfl) rfl rfl ?_
        exact .done (.rf rfl rfl)
      refine Ok.seq ?_
      obtain ⟨t20, h21, H⟩ := bindE H
      refine Ok.region (σ' := ⟨[(1, (L 2 e_api_Field a1)), (3, (S a3)), (9, (S t12.1)), (10, (.v (.int .i64 t12.2))), (11, (S t14.1)), (12, (.v (.int .i64 t14.2))), (13, (S t16.1)), (14, (L 2 e_api_Field t16.2.1)), (15, (.v (.int .i64 t16.2.2))), (16, (S t18.1)), (17, (L 2 e_api_Field t18.2.1)), (18, (.v (.int .i64 t18.2.2))), (19, (S t20.1)), (20, (.v (.bool t20.2)))], []⟩) ?_ ?_
      · refine .cv (VOk.mv (d := (L 2 e_api_Field a1)) rfl rfl) rfl rfl ?_
        refine .cv (VOk.mv (d := (S a3)) rfl rfl) rfl rfl ?_
        refine .cg (GOk.call rfl rfl cl23 rfl (field_Param.ok h21) rfl) rfl rfl ?_
        refine .cv (VOk.mv (d := (.tup [(S t20.1), (.v (.bool t20.2))])) rfl rfl) rfl rfl ?_
        refine .cv (VOk.extract (d := (S t20.1)) rfl rfl rfl) rfl rfl ?_
        refine .cv (VOk.extract (d := (.v (.bool t20.2))) rfl rfl rfl) rfl rfl ?_
        refine .cv (VOk.asg (d := (S t20.1)) rfl rfl) rfl rfl ?_
        refine .cv (VOk.asg (d := (.v (.bool t20.2))) rfl rfl) rfl rfl ?_
        exact .done (.rf rfl rfl)
      refine Ok.seq ?_
      obtain ⟨t22, h23, H⟩ := bindE H
      refine Ok.region (σ' := ⟨[(9, (S t12.1)), (10, (.v (.int .i64 t12.2))), (11, (S t14.1)), (12, (.v (.int .i64 t14.2))), (13, (S t16.1)), (14, (L 2 e_api_Field t16.2.1)), (15, (.v (.int .i64 t16.2.2))), (16, (S t18.1)), (17, (L 2 e_api_Field t18.2.1)), (18, (.v (.int .i64 t18.2.2))), (19, (S t20.1)), (20, (.v (.bool t20.2))), (21, (S t22.1)), (22, (.v (.bool t22.2)))], []⟩) ?_ ?_
      · refine .cv (VOk.mv (d := (L 2 e_api_Field a1)) rfl rfl) rfl rfl ?_
        refine .cv (VOk.mv (d := (S a3)) rfl rfl) rfl rfl ?_
        refine .cg (GOk.call rfl rfl cl24 rfl (watchbillref07_Param.ok h23) rfl) rfl rfl ?_
        refine .cv (VOk.mv (d := (.tup [(S t22.1), (.v (.bool t22.2))])) rfl rfl) rfl rfl ?_
        refine .cv (VOk.extract (d := (S t22.1)) rfl rfl rfl) rfl rfl ?_
        refine .cv (VOk.extract (d := (.v (.bool t22.2))) rfl rfl rfl) rfl rfl ?_
        refine .cv (VOk.asg (d := (S t22.1)) rfl rfl) rfl rfl ?_
        refine .cv (VOk.asg (d := (.v (.bool t22.2))) rfl rfl) rfl rfl ?_
        exact .done (.rf rfl rfl)
      refine Ok.seq ?_
      obtain ⟨t29, h30, H⟩ := bindE H
      refine Ok.region (σ' := ⟨[(8, (.v (.bool (((((((t12.1 == t14.1) && (t12.2 == t14.2)) && (t16.1 == t18.1)) && t29) && (t16.2.2 == t18.2.2)) && (t20.1 == t22.1)) && (t20.2 == t22.2)))))], []⟩) ?_ ?_
      · refine .cv (VOk.mv (d := (S t12.1)) rfl rfl) rfl rfl ?_
        refine .cv (VOk.mv (d := (S t14.1)) rfl rfl) rfl rfl ?_
        refine .cv (VOk.strOp (op := .eql) (a := t12.1) (b := t14.1) rfl rfl rfl rfl) rfl rfl ?_
        refine .cv (VOk.mv (d := (.v (.bool (t12.1 == t14.1)))) rfl rfl) rfl rfl ?_
        refine OpsOk.consI rfl rfl rfl (.one rfl) rfl (fun hw24 => (VOk.g (VOk.mv (d := (.v (.int .i64 t12.2))) rfl rfl))) ?_
        refine OpsOk.consI rfl rfl rfl (.one rfl) rfl (fun hw24 => (VOk.g (VOk.mv (d := (.v (.int .i64 t14.2))) rfl rfl))) ?_
        refine OpsOk.consI rfl rfl rfl (.one rfl) rfl (fun hw24 => (GOk.fr (fr' := [(85, (.v (.int .i64 t12.2))), (86, (.v (.int .i64 t14.2)))]) ⟨DLe.of_eq (cT hw24).symm, DLe.of_eq (cT hw24).symm, trivial⟩ (VOk.g (VOk.arith (op := .eql) (k := .i64) (a := t12.2) (b := t14.2) rfl rfl rfl rfl)))) ?_
        refine .cv (VOk.to (VOk.pickI (b := (t12.1 == t14.1)) (p := (t12.2 == t14.2)) (q := false) rfl rfl (fun hp25 => (cT (t_beq hp25))) (fun hp25 => rfl)) (pickAnd (t12.1 == t14.1) (t12.2 == t14.2))) rfl rfl ?_
        refine .cv (VOk.mv (d := (.v (.bool ((t12.1 == t14.1) && (t12.2 == t14.2))))) rfl rfl) rfl rfl ?_
        refine OpsOk.consI rfl rfl rfl (.one rfl) rfl (fun hw26 => (VOk.g (VOk.mv (d := (S t16.1)) rfl rfl))) ?_
        refine OpsOk.consI rfl rfl rfl (.one rfl) rfl (fun hw26 => (VOk.g (VOk.mv (d := (S t18.1)) rfl rfl))) ?_
        refine OpsOk.consI rfl rfl rfl (.one rfl) rfl (fun hw26 => (GOk.fr (fr' := [(90, (S t16.1)), (91, (S t18.1))]) ⟨DLe.of_eq (cT hw26).symm, DLe.of_eq (cT hw26).symm, trivial⟩ (VOk.g (VOk.strOp (op := .eql) (a := t16.1) (b := t18.1) rfl rfl rfl rfl)))) ?_
        refine .cv (VOk.to (VOk.pickI (b := ((t12.1 == t14.1) && (t12.2 == t14.2))) (p := (t16.1 == t18.1)) (q := false) rfl rfl (fun hp27 => (cT (t_beq hp27))) (fun hp27 => rfl)) (pickAnd ((t12.1 == t14.1) && (t12.2 == t14.2)) (t16.1 == t18.1))) rfl rfl ?_
        refine .cv (VOk.mv (d := (.v (.bool (((t12.1 == t14.1) && (t12.2 == t14.2)) && (t16.1 == t18.1))))) rfl rfl) rfl rfl ?_
        refine OpsOk.consI rfl rfl rfl (.one rfl) rfl (fun hw28 => (VOk.g (VOk.mv (d := (L 2 e_api_Field t16.2.1)) rfl rfl))) ?_
        refine OpsOk.consI rfl rfl rfl (.one rfl) rfl (fun hw28 => (VOk.g (VOk.mv (d := (L 2 e_api_Field t18.2.1)) rfl rfl))) ?_
        refine OpsOk.consI rfl rfl rfl (.one rfl) rfl (fun hw28 => (GOk.fr (fr' := [(95, (L 2 e_api_Field t16.2.1)), (96, (L 2 e_api_Field t18.2.1))]) ⟨DLe.of_eq (cT hw28).symm, DLe.of_eq (cT hw28).symm, trivial⟩ (GOk.call rfl rfl cl25 rfl (watchbillref07_Params.ok (ifT h30 hw28)) rfl))) ?_
        refine .cv (VOk.to (VOk.pickI (b := (((t12.1 == t14.1) && (t12.2 == t14.2)) && (t16.1 == t18.1))) (p := t29) (q := false) rfl rfl (fun hp31 => (cT (t_beq hp31))) (fun hp31 => rfl)) (pickAnd (((t12.1 == t14.1) && (t12.2 == t14.2)) && (t16.1 == t18.1)) t29)) rfl rfl ?_
        refine .cv (VOk.mv (d := (.v (.bool ((((t12.1 == t14.1) && (t12.2 == t14.2)) && (t16.1 == t18.1)) && t29)))) rfl rfl) rfl rfl ?_
        refine OpsOk.consI rfl rfl rfl (.one rfl) rfl (fun hw32 => (VOk.g (VOk.mv (d := (.v (.int .i64 t16.2.2))) rfl rfl))) ?_
        refine OpsOk.consI rfl rfl rfl (.one rfl) rfl (fun hw32 => (VOk.g (VOk.mv (d := (.v (.int .i64 t18.2.2))) rfl rfl))) ?_
        refine OpsOk.consI rfl rfl rfl (.one rfl) rfl (fun hw32 => (GOk.fr (fr' := [(100, (.v (.int .i64 t16.2.2))), (101, (.v (.int .i64 t18.2.2)))]) ⟨DLe.of_eq (cT hw32).symm, DLe.of_eq (cT hw32).symm, trivial⟩ (VOk.g (VOk.arith (op := .eql) (k := .i64) (a := t16.2.2) (b := t18.2.2) rfl rfl rfl rfl)))) ?_
        refine .cv (VOk.to (VOk.pickI (b := ((((t12.1 == t14.1) && (t12.2 == t14.2)) && (t16.1 == t18.1)) && t29)) (p := (t16.2.2 == t18.2.2)) (q := false) rfl rfl (fun hp33 => (cT (t_beq hp33))) (fun hp33 => rfl)) (pickAnd ((((t12.1 == t14.1) && (t12.2 == t14.2)) && (t16.1 == t18.1)) && t29) (t16.2.2 == t18.2.2))) rfl rfl ?_
        refine .cv (VOk.mv (d := (.v (.bool (((((t12.1 == t14.1) && (t12.2 == t14.2)) && (t16.1 == t18.1)) && t29) && (t16.2.2 == t18.2.2))))) rfl rfl) rfl rfl ?_
        refine OpsOk.consI rfl rfl rfl (.one rfl) rfl (fun hw34 => (VOk.g (VOk.mv (d := (S t20.1)) rfl rfl))) ?_
        refine OpsOk.consI rfl rfl rfl (.one rfl) rfl (fun hw34 => (VOk.g (VOk.mv (d := (S t22.1)) rfl rfl))) ?_
        refine OpsOk.consI rfl rfl rfl (.one rfl) rfl (fun hw34 => (GOk.fr (fr' := [(105, (S t20.1)), (106, (S t22.1))]) ⟨DLe.of_eq (cT hw34).symm, DLe.of_eq (cT hw34).symm, trivial⟩ (VOk.g (VOk.strOp (op := .eql) (a := t20.1) (b := t22.1) rfl rfl rfl rfl)))) ?_
        refine .cv (VOk.to (VOk.pickI (b := (((((t12.1 == t14.1) && (t12.2 == t14.2)) && (t16.1 == t18.1)) && t29) && (t16.2.2 == t18.2.2))) (p := (t20.1 == t22.1)) (q := false) rfl rfl (fun hp35 => (cT (t_beq hp35))) (fun hp35 => rfl)) (pickAnd (((((t12.1 == t14.1) && (t12.2 == t14.2)) && (t16.1 == t18.1)) && t29) && (t16.2.2 == t18.2.2)) (t20.1 == t22.1))) rfl rfl ?_
        refine .cv (VOk.mv (d := (.v (.bool ((((((t12.1 == t14.1) && (t12.2 == t14.2)) && (t16.1 == t18.1)) && t29) && (t16.2.2 == t18.2.2)) && (t20.1 == t22.1))))) rfl rfl) rfl rfl ?_
        refine OpsOk.consI rfl rfl rfl (.one rfl) rfl (fun hw36 => (VOk.g (VOk.mv (d := (.v (.bool t20.2))) rfl rfl))) ?_
        refine OpsOk.consI rfl rfl rfl (.one rfl) rfl (fun hw36 => (VOk.g (VOk.mv (d := (.v (.bool t22.2))) rfl rfl))) ?_
        refine OpsOk.consI rfl rfl rfl (.one rfl) rfl (fun hw36 => (GOk.fr (fr' := [(110, (.v (.bool t20.2))), (111, (.v (.bool t22.2)))]) ⟨DLe.of_eq (cT hw36).symm, DLe.of_eq (cT hw36).symm, trivial⟩ (VOk.g (VOk.eqB (op := .eql) (p := t20.2) (q := t22.2) rfl (.inl rfl) Tryd.underlying4 rfl rfl)))) ?_
        refine .cv (VOk.to (VOk.pickI (b := ((((((t12.1 == t14.1) && (t12.2 == t14.2)) && (t16.1 == t18.1)) && t29) && (t16.2.2 == t18.2.2)) && (t20.1 == t22.1))) (p := (t20.2 == t22.2)) (q := false) rfl rfl (fun hp37 => (cT (t_beq hp37))) (fun hp37 => rfl)) (pickAnd ((((((t12.1 == t14.1) && (t12.2 == t14.2)) && (t16.1 == t18.1)) && t29) && (t16.2.2 == t18.2.2)) && (t20.1 == t22.1)) (t20.2 == t22.2))) rfl rfl ?_
        refine .cv (VOk.asg (d := (.v (.bool (((((((t12.1 == t14.1) && (t12.2 == t14.2)) && (t16.1 == t18.1)) && t29) && (t16.2.2 == t18.2.2)) && (t20.1 == t22.1)) && (t20.2 == t22.2))))) rfl rfl) rfl rfl ?_
        exact .done (.rf rfl rfl)
      refine Ok.ret ?_
      obtain rfl := Option.some.inj H
      exact ⟨.inl rfl, ⟨_, (.cons (.tmp rfl) .nil), rfl⟩, trivial⟩

end Go.Proofs.YtpdhjbjkakpejaaDoor.Sh
