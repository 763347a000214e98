import Derived.Test.YtannhioamkkdnaaProg
import Derived.Test.YtannhioamkkdnaaShc
namespace Go.Proofs.Ytannhioamkkdnaa.Sh
open Go Go.RowKit Go.Proofs.Vx
set_option linter.unusedVariables false

set_option maxRecDepth 100000
set_option maxHeartbeats 1000000
/-! watchbill/watchbillref17.valid: function 31 -/
def watchbillref17_valid.l0 (k : Nat) (t34 : (List T_api_Node)) : Nat → Int → Option Bool
  | 0, _ => none
  | m38 + 1, x5_36 => (if (decide (x5_36 < (t34.length : Int))) = true then (if (0 : Int) ≤ x5_36 ∧ x5_36 < (t34.length : Int) then ((watchbillref17_says k (rd t34 x5_36) ([112, 97, 99, 107, 97, 103, 101] : Str)).bind fun (t40 : Bool) => (if (!t40) = true then some false else watchbillref17_valid.l0 k t34 m38 (IntKind.i64.wrap (x5_36 + 1)))) else none) else some true)
def watchbillref17_valid (k : Nat) (a0 : T_api_Node) : Option Bool := ((watchbillref17_parts k a0).bind fun (t1 : (List T_api_Node)) => ((watchbillref16_Is a0 ([117, 114, 110, 58, 105, 101, 116, 102, 58, 112, 97, 114, 97, 109, 115, 58, 120, 109, 108, 58, 110, 115, 58, 114, 108, 115, 45, 115, 101, 114, 118, 105, 99, 101, 115] : Str) ([115, 101, 114, 118, 105, 99, 101] : Str)).bind fun (t3 : Bool) => (((if ((!t3) == false) = true then watchbillref16_Blank k a0 else some default)).bind fun (t6 : Bool) => (((if (((!t3) || (!t6)) == false) = true then watchbillref16_Attr k a0 ([117, 114, 105] : Str) else some default)).bind fun (t10 : Str) => (if (((((!t3) || (!t6)) || (t10 == ([] : Str))) || (decide ((t1.length : Int) < 1))) || (decide ((t1.length : Int) > 2))) = true then some false else (if (0 : Int) ≤ 0 ∧ 0 < (t1.length : Int) then ((watchbillref16_Valid k (rd t1 0)).bind fun (t18 : Bool) => (if (((!t18) == true) = true → (0 : Int) ≤ 0 ∧ 0 < (t1.length : Int)) then (((if ((!t18) == true) = true then watchbillref17_says k (rd t1 0) ([114, 101, 115, 111, 117, 114, 99, 101, 45, 108, 105, 115, 116] : Str) else some default)).bind fun (t22 : Bool) => (if ((!t18) && (!t22)) = true then some false else (if ((t1.length : Int) == 1) = true then some true else (if (0 : Int) ≤ 1 ∧ 1 < (t1.length : Int) then ((watchbillref16_Is (rd t1 1) ([117, 114, 110, 58, 105, 101, 116, 102, 58, 112, 97, 114, 97, 109, 115, 58, 120, 109, 108, 58, 110, 115, 58, 114, 108, 115, 45, 115, 101, 114, 118, 105, 99, 101, 115] : Str) ([112, 97, 99, 107, 97, 103, 101, 115] : Str)).bind fun (t26 : Bool) => (if (((!t26) == false) = true → (0 : Int) ≤ 1 ∧ 1 < (t1.length : Int)) then (((if ((!t26) == false) = true then watchbillref16_Blank k (rd t1 1) else some default)).bind fun (t30 : Bool) => (if ((!t26) || (!t30)) = true then some false else (if (0 : Int) ≤ 1 ∧ 1 < (t1.length : Int) then ((watchbillref16_Kids k (rd t1 1) ([117, 114, 110, 58, 105, 101, 116, 102, 58, 112, 97, 114, 97, 109, 115, 58, 120, 109, 108, 58, 110, 115, 58, 114, 108, 115, 45, 115, 101, 114, 118, 105, 99, 101, 115] : Str)).bind fun (t34 : (List T_api_Node)) => watchbillref17_valid.l0 k t34 k 0) else none))) else none)) else none)))) else none)) else none))))))
theorem watchbillref17_valid.ok {k : Nat} {a0 : T_api_Node} {r : Bool} (H : watchbillref17_valid k a0 = some r) : Vx.Fn Try.prog 31 [(.agg (e_api_Node a0))] [] (.v (.bool r)) [] := by
  unfold watchbillref17_valid at H
  refine Vx.Fn.of_okR Try.func31 rfl (Nat.le_of_ble_eq_true rfl) ?_
  refine Ok.seq ?_
  refine Ok.region (σ' := ⟨[(1, (.bref 1 0))], [(1, (.box .ex (c_api_Node a0)))]⟩) ?_ ?_
  · refine OpsOk.cut1 0 (.agg [(.v (.int .i64 a0.Kind)), (S a0.Name.Space), (S a0.Name.Local), (L 3 e_api_Attr a0.Attrs), (L 6 e_api_Node a0.Kids), (S a0.Text)]) (DLe.of_eq (congrArg D.agg (e_api_Node_c _).symm)) ?_
    refine OpsOk.cons rfl (OpOk.box 1 (cells := [(.v (.int .i64 a0.Kind)), (S a0.Name.Space), (S a0.Name.Local), (L 3 e_api_Attr a0.Attrs), (L 6 e_api_Node a0.Kids), (S a0.Text)]) rfl rfl rfl rfl) ?_
    refine .cv (VOk.asg (d := (.v (.bool false))) rfl rfl) rfl rfl ?_
    exact .done (.rf rfl rfl)
  refine Ok.seq ?_
  obtain ⟨t1, h2, H⟩ := bindE H
  refine Ok.region (σ' := ⟨[(1, (.bref 1 0)), (3, (L 6 e_api_Node t1))], [(1, (.box .ex (c_api_Node a0)))]⟩) ?_ ?_
  · refine .cv (VOk.to (d' := (.agg (e_api_Node a0))) (.loadBAgg rfl Try.underlying27 rfl sz27 rfl rfl rfl) (congrArg D.agg (e_api_Node_c a0).symm)) rfl rfl ?_
    refine .cg (GOk.call rfl rfl cl54 rfl (watchbillref17_parts.ok h2) rfl) rfl rfl ?_
    refine .cv (VOk.asg (d := (L 6 e_api_Node t1)) rfl rfl) rfl rfl ?_
    exact .done (.rf rfl rfl)
  refine Ok.seq ?_
  refine Ok.seq ?_
  obtain ⟨t3, h4, H⟩ := bindE H
  obtain ⟨t6, h7, H⟩ := bindE H
  obtain ⟨t10, h11, H⟩ := bindE H
  refine Ok.region (σ' := ⟨[(3, (L 6 e_api_Node t1)), (30, (.v (.bool (((((!t3) || (!t6)) || (t10 == ([] : Str))) || (decide ((t1.length : Int) < 1))) || (decide ((t1.length : Int) > 2))))))], []⟩) ?_ ?_
  · refine .cv (VOk.to (d' := (.agg (e_api_Node a0))) (.loadBAgg rfl Try.underlying27 rfl sz27 rfl rfl rfl) (congrArg D.agg (e_api_Node_c a0).symm)) rfl rfl ?_
    refine .cg (GOk.call rfl rfl cl28 rfl (watchbillref16_Is.ok h4) rfl) rfl rfl ?_
    refine .cv (VOk.not (b := t3) rfl rfl) rfl rfl ?_
    refine .cv (VOk.mv (d := (.v (.bool (!t3)))) rfl rfl) rfl rfl ?_
    refine OpsOk.consI rfl rfl rfl (.one rfl) rfl (fun hw5 => (VOk.g (VOk.to (d' := (.agg (e_api_Node a0))) (.loadBAgg rfl Try.underlying27 rfl sz27 rfl rfl rfl) (congrArg D.agg (e_api_Node_c a0).symm)))) ?_
    refine OpsOk.consI rfl rfl rfl (.one rfl) rfl (fun hw5 => (GOk.fr (fr' := [(12, (.agg (e_api_Node a0)))]) ⟨DLe.of_eq (cT hw5).symm, trivial⟩ (GOk.call rfl rfl cl29 rfl (watchbillref16_Blank.ok (ifT h7 hw5)) rfl))) ?_
    refine OpsOk.consI rfl rfl rfl (.one rfl) rfl (fun hw5 => (GOk.fr (fr' := [(13, (.v (.bool t6)))]) ⟨DLe.of_eq (cT hw5).symm, trivial⟩ (VOk.g (VOk.not (b := t6) rfl rfl)))) ?_
    refine .cv (VOk.to (VOk.pickI (b := (!t3)) (p := true) (q := (!t6)) rfl rfl (fun hp8 => rfl) (fun hp8 => (cT (f_beq hp8)))) (pickOr (!t3) (!t6))) rfl rfl ?_
    refine .cv (VOk.mv (d := (.v (.bool ((!t3) || (!t6))))) rfl rfl) rfl rfl ?_
    refine OpsOk.consI rfl rfl rfl (.one rfl) rfl (fun hw9 => (VOk.g (VOk.to (d' := (.agg (e_api_Node a0))) (.loadBAgg rfl Try.underlying27 rfl sz27 rfl rfl rfl) (congrArg D.agg (e_api_Node_c a0).symm)))) ?_
    refine OpsOk.consI rfl rfl rfl (.one rfl) rfl (fun hw9 => (GOk.fr (fr' := [(17, (.agg (e_api_Node a0)))]) ⟨DLe.of_eq (cT hw9).symm, trivial⟩ (GOk.call rfl rfl cl55 rfl (watchbillref16_Attr.ok (ifT h11 hw9)) rfl))) ?_
    refine OpsOk.consI rfl rfl rfl (.one rfl) rfl (fun hw9 => (GOk.fr (fr' := [(18, (S t10))]) ⟨DLe.of_eq (cT hw9).symm, trivial⟩ (VOk.g (VOk.strOp (op := .eql) (a := t10) (b := ([] : Str)) rfl rfl rfl rfl)))) ?_
    refine .cv (VOk.to (VOk.pickI (b := ((!t3) || (!t6))) (p := true) (q := (t10 == ([] : Str))) rfl rfl (fun hp12 => rfl) (fun hp12 => (cT (f_beq hp12)))) (pickOr ((!t3) || (!t6)) (t10 == ([] : Str)))) rfl rfl ?_
    refine .cv (VOk.mv (d := (.v (.bool (((!t3) || (!t6)) || (t10 == ([] : Str)))))) rfl rfl) rfl rfl ?_
    refine OpsOk.consI rfl rfl rfl (.one rfl) rfl (fun hw13 => (VOk.g (VOk.mv (d := (L 6 e_api_Node t1)) rfl rfl))) ?_
    refine OpsOk.consI rfl rfl rfl (.one rfl) rfl (fun hw13 => (GOk.fr (fr' := [(22, (L 6 e_api_Node t1))]) ⟨DLe.of_eq (cT hw13).symm, trivial⟩ (VOk.g (VOk.lenL (e := e_api_Node) (xs := t1) rfl Try.underlying25 rfl)))) ?_
    refine OpsOk.consI rfl rfl rfl (.one rfl) rfl (fun hw13 => (GOk.fr (fr' := [(23, (.v (.int .i64 (t1.length : Int))))]) ⟨DLe.of_eq (cT hw13).symm, trivial⟩ (VOk.g (VOk.arith (op := .lss) (k := .i64) (a := (t1.length : Int)) (b := 1) rfl rfl rfl rfl)))) ?_
    refine .cv (VOk.to (VOk.pickI (b := (((!t3) || (!t6)) || (t10 == ([] : Str)))) (p := true) (q := (decide ((t1.length : Int) < 1))) rfl rfl (fun hp14 => rfl) (fun hp14 => (cT (f_beq hp14)))) (pickOr (((!t3) || (!t6)) || (t10 == ([] : Str))) (decide ((t1.length : Int) < 1)))) rfl rfl ?_
    refine .cv (VOk.mv (d := (.v (.bool ((((!t3) || (!t6)) || (t10 == ([] : Str))) || (decide ((t1.length : Int) < 1)))))) rfl rfl) rfl rfl ?_
    refine OpsOk.consI rfl rfl rfl (.one rfl) rfl (fun hw15 => (VOk.g (VOk.mv (d := (L 6 e_api_Node t1)) rfl rfl))) ?_
    refine OpsOk.consI rfl rfl rfl (.one rfl) rfl (fun hw15 => (GOk.fr (fr' := [(27, (L 6 e_api_Node t1))]) ⟨DLe.of_eq (cT hw15).symm, trivial⟩ (VOk.g (VOk.lenL (e := e_api_Node) (xs := t1) rfl Try.underlying25 rfl)))) ?_
    refine OpsOk.consI rfl rfl rfl (.one rfl) rfl (fun hw15 => (GOk.fr (fr' := [(28, (.v (.int .i64 (t1.length : Int))))]) ⟨DLe.of_eq (cT hw15).symm, trivial⟩ (VOk.g (VOk.arith (op := .gtr) (k := .i64) (a := (t1.length : Int)) (b := 2) rfl rfl rfl rfl)))) ?_
    refine .cv (VOk.to (VOk.pickI (b := ((((!t3) || (!t6)) || (t10 == ([] : Str))) || (decide ((t1.length : Int) < 1)))) (p := true) (q := (decide ((t1.length : Int) > 2))) rfl rfl (fun hp16 => rfl) (fun hp16 => (cT (f_beq hp16)))) (pickOr ((((!t3) || (!t6)) || (t10 == ([] : Str))) || (decide ((t1.length : Int) < 1))) (decide ((t1.length : Int) > 2)))) rfl rfl ?_
    exact .done (.rf rfl rfl)
  refine Ok.test (b := (((((!t3) || (!t6)) || (t10 == ([] : Str))) || (decide ((t1.length : Int) < 1))) || (decide ((t1.length : Int) > 2)))) rfl (fun hb47 => ?_) (fun hb47 => ?_)
  · replace H := ifT H hb47
    refine Ok.seq ?_
    refine Ok.region (σ' := ⟨[(2, (.v (.bool false)))], []⟩) ?_ ?_
    · refine .cv (VOk.asg (d := (.v (.bool false))) rfl rfl) rfl rfl ?_
      exact .done (.rf rfl rfl)
    refine Ok.ret ?_
    obtain rfl := Option.some.inj H
    exact ⟨.inl rfl, ⟨_, (.cons (.tmp rfl) .nil), rfl⟩, trivial⟩
  · replace H := ifF H hb47
    refine Ok.skip ?_
    refine Ok.seq ?_
    refine Ok.seq ?_
    obtain ⟨c17, H⟩ := assertE H
    obtain ⟨t18, h19, H⟩ := bindE H
    obtain ⟨c21, H⟩ := assertE H
    obtain ⟨t22, h23, H⟩ := bindE H
    refine Ok.region (σ' := ⟨[(3, (L 6 e_api_Node t1)), (42, (.v (.bool ((!t18) && (!t22)))))], []⟩) ?_ ?_
    · refine .cv (VOk.mv (d := (L 6 e_api_Node t1)) rfl rfl) rfl rfl ?_
      refine .cv (VOk.indexL (sz := 6) (e := e_api_Node) (xs := t1) (i := 0) rfl Try.underlying25 sz27 rfl rfl c17) rfl rfl ?_
      refine .cv (VOk.to (d' := (.agg (e_api_Node (rd t1 0)))) (.loadFpAgg rfl Try.underlying27 rfl sz27 rfl rfl) rfl) rfl rfl ?_
      refine .cg (GOk.call rfl rfl cl56 rfl (watchbillref16_Valid.ok h19) rfl) rfl rfl ?_
      refine .cv (VOk.not (b := t18) rfl rfl) rfl rfl ?_
      refine .cv (VOk.mv (d := (.v (.bool (!t18)))) rfl rfl) rfl rfl ?_
      refine OpsOk.consI rfl rfl rfl (.one rfl) rfl (fun hw20 => (VOk.g (VOk.mv (d := (L 6 e_api_Node t1)) rfl rfl))) ?_
      refine OpsOk.consI rfl rfl rfl (.one rfl) rfl (fun hw20 => (GOk.fr (fr' := [(37, (L 6 e_api_Node t1))]) ⟨DLe.of_eq (cT hw20).symm, trivial⟩ (VOk.g (VOk.indexL (sz := 6) (e := e_api_Node) (xs := t1) (i := 0) rfl Try.underlying25 sz27 rfl rfl (c21 hw20))))) ?_
      refine OpsOk.consI rfl rfl rfl (.one rfl) rfl (fun hw20 => (GOk.fr (fr' := [(38, (.fp (e_api_Node (rd t1 0)) 0))]) ⟨DLe.of_eq (cT hw20).symm, trivial⟩ (VOk.g (VOk.to (d' := (.agg (e_api_Node (rd t1 0)))) (.loadFpAgg rfl Try.underlying27 rfl sz27 rfl rfl) rfl)))) ?_
      refine OpsOk.consI rfl rfl rfl (.one rfl) rfl (fun hw20 => (GOk.fr (fr' := [(39, (.agg (e_api_Node (rd t1 0))))]) ⟨DLe.of_eq (cT hw20).symm, trivial⟩ (GOk.call rfl rfl cl57 rfl (watchbillref17_says.ok (ifT h23 hw20)) rfl))) ?_
      refine OpsOk.consI rfl rfl rfl (.one rfl) rfl (fun hw20 => (GOk.fr (fr' := [(40, (.v (.bool t22)))]) ⟨DLe.of_eq (cT hw20).symm, trivial⟩ (VOk.g (VOk.not (b := t22) rfl rfl)))) ?_
      refine .cv (VOk.to (VOk.pickI (b := (!t18)) (p := (!t22)) (q := false) rfl rfl (fun hp24 => (cT (t_beq hp24))) (fun hp24 => rfl)) (pickAnd (!t18) (!t22))) rfl rfl ?_
      exact .done (.rf rfl rfl)
    refine Ok.test (b := ((!t18) && (!t22))) rfl (fun hb46 => ?_) (fun hb46 => ?_)
    · replace H := ifT H hb46
      refine Ok.seq ?_
      refine Ok.region (σ' := ⟨[(2, (.v (.bool false)))], []⟩) ?_ ?_
      · refine .cv (VOk.asg (d := (.v (.bool false))) rfl rfl) rfl rfl ?_
        exact .done (.rf rfl rfl)
      refine Ok.ret ?_
      obtain rfl := Option.some.inj H
      exact ⟨.inl rfl, ⟨_, (.cons (.tmp rfl) .nil), rfl⟩, trivial⟩
    · replace H := ifF H hb46
      refine Ok.skip ?_
      refine Ok.seq ?_
      refine Ok.seq ?_
      refine Ok.region (σ' := ⟨[(3, (L 6 e_api_Node t1)), (45, (.v (.bool ((t1.length : Int) == 1))))], []⟩) ?_ ?_
      · refine .cv (VOk.mv (d := (L 6 e_api_Node t1)) rfl rfl) rfl rfl ?_
        refine .cv (VOk.lenL (e := e_api_Node) (xs := t1) rfl Try.underlying25 rfl) rfl rfl ?_
        refine .cv (VOk.arith (op := .eql) (k := .i64) (a := (t1.length : Int)) (b := 1) rfl rfl rfl rfl) rfl rfl ?_
        exact .done (.rf rfl rfl)
      refine Ok.test (b := ((t1.length : Int) == 1)) rfl (fun hb45 => ?_) (fun hb45 => ?_)
      · replace H := ifT H hb45
        refine Ok.seq ?_
        refine Ok.region (σ' := ⟨[(2, (.v (.bool true)))], []⟩) ?_ ?_
        · refine .cv (VOk.asg (d := (.v (.bool true))) rfl rfl) rfl rfl ?_
          exact .done (.rf rfl rfl)
        refine Ok.ret ?_
        obtain rfl := Option.some.inj H
        exact ⟨.inl rfl, ⟨_, (.cons (.tmp rfl) .nil), rfl⟩, trivial⟩
      · replace H := ifF H hb45
        refine Ok.skip ?_
        refine Ok.seq ?_
        refine Ok.seq ?_
        obtain ⟨c25, H⟩ := assertE H
        obtain ⟨t26, h27, H⟩ := bindE H
        obtain ⟨c29, H⟩ := assertE H
        obtain ⟨t30, h31, H⟩ := bindE H
        refine Ok.region (σ' := ⟨[(3, (L 6 e_api_Node t1)), (57, (.v (.bool ((!t26) || (!t30)))))], []⟩) ?_ ?_
        · refine .cv (VOk.mv (d := (L 6 e_api_Node t1)) rfl rfl) rfl rfl ?_
          refine .cv (VOk.indexL (sz := 6) (e := e_api_Node) (xs := t1) (i := 1) rfl Try.underlying25 sz27 rfl rfl c25) rfl rfl ?_
          refine .cv (VOk.to (d' := (.agg (e_api_Node (rd t1 1)))) (.loadFpAgg rfl Try.underlying27 rfl sz27 rfl rfl) rfl) rfl rfl ?_
          refine .cg (GOk.call rfl rfl cl28 rfl (watchbillref16_Is.ok h27) rfl) rfl rfl ?_
          refine .cv (VOk.not (b := t26) rfl rfl) rfl rfl ?_
          refine .cv (VOk.mv (d := (.v (.bool (!t26)))) rfl rfl) rfl rfl ?_
          refine OpsOk.consI rfl rfl rfl (.one rfl) rfl (fun hw28 => (VOk.g (VOk.mv (d := (L 6 e_api_Node t1)) rfl rfl))) ?_
          refine OpsOk.consI rfl rfl rfl (.one rfl) rfl (fun hw28 => (GOk.fr (fr' := [(52, (L 6 e_api_Node t1))]) ⟨DLe.of_eq (cT hw28).symm, trivial⟩ (VOk.g (VOk.indexL (sz := 6) (e := e_api_Node) (xs := t1) (i := 1) rfl Try.underlying25 sz27 rfl rfl (c29 hw28))))) ?_
          refine OpsOk.consI rfl rfl rfl (.one rfl) rfl (fun hw28 => (GOk.fr (fr' := [(53, (.fp (e_api_Node (rd t1 1)) 0))]) ⟨DLe.of_eq (cT hw28).symm, trivial⟩ (VOk.g (VOk.to (d' := (.agg (e_api_Node (rd t1 1)))) (.loadFpAgg rfl Try.underlying27 rfl sz27 rfl rfl) rfl)))) ?_
          refine OpsOk.consI rfl rfl rfl (.one rfl) rfl (fun hw28 => (GOk.fr (fr' := [(54, (.agg (e_api_Node (rd t1 1))))]) ⟨DLe.of_eq (cT hw28).symm, trivial⟩ (GOk.call rfl rfl cl29 rfl (watchbillref16_Blank.ok (ifT h31 hw28)) rfl))) ?_
          refine OpsOk.consI rfl rfl rfl (.one rfl) rfl (fun hw28 => (GOk.fr (fr' := [(55, (.v (.bool t30)))]) ⟨DLe.of_eq (cT hw28).symm, trivial⟩ (VOk.g (VOk.not (b := t30) rfl rfl)))) ?_
          refine .cv (VOk.to (VOk.pickI (b := (!t26)) (p := true) (q := (!t30)) rfl rfl (fun hp32 => rfl) (fun hp32 => (cT (f_beq hp32)))) (pickOr (!t26) (!t30))) rfl rfl ?_
          exact .done (.rf rfl rfl)
        refine Ok.test (b := ((!t26) || (!t30))) rfl (fun hb44 => ?_) (fun hb44 => ?_)
        · replace H := ifT H hb44
          refine Ok.seq ?_
          refine Ok.region (σ' := ⟨[(2, (.v (.bool false)))], []⟩) ?_ ?_
          · refine .cv (VOk.asg (d := (.v (.bool false))) rfl rfl) rfl rfl ?_
            exact .done (.rf rfl rfl)
          refine Ok.ret ?_
          obtain rfl := Option.some.inj H
          exact ⟨.inl rfl, ⟨_, (.cons (.tmp rfl) .nil), rfl⟩, trivial⟩
        · replace H := ifF H hb44
          refine Ok.skip ?_
          refine Ok.seq ?_
          obtain ⟨c33, H⟩ := assertE H
          obtain ⟨t34, h35, H⟩ := bindE H
          refine Ok.region (σ' := ⟨[(4, (L 6 e_api_Node t34))], []⟩) ?_ ?_
          · refine .cv (VOk.mv (d := (L 6 e_api_Node t1)) rfl rfl) rfl rfl ?_
            refine .cv (VOk.indexL (sz := 6) (e := e_api_Node) (xs := t1) (i := 1) rfl Try.underlying25 sz27 rfl rfl c33) rfl rfl ?_
            refine .cv (VOk.to (d' := (.agg (e_api_Node (rd t1 1)))) (.loadFpAgg rfl Try.underlying27 rfl sz27 rfl rfl) rfl) rfl rfl ?_
            refine .cg (GOk.call rfl rfl cl30 rfl (watchbillref16_Kids.ok h35) rfl) rfl rfl ?_
            refine .cv (VOk.asg (d := (L 6 e_api_Node t34)) rfl rfl) rfl rfl ?_
            exact .done (.rf rfl rfl)
          refine Ok.seq ?_
          refine Ok.seq ?_
          refine Ok.region (σ' := ⟨[(4, (L 6 e_api_Node t34)), (5, (.v (.int .i64 0)))], []⟩) ?_ ?_
          · refine .cv (VOk.asg (d := (.v (.int .i64 0))) rfl rfl) rfl rfl ?_
            exact .done (.rf rfl rfl)
          refine Ok.block ?_
          refine Ok.le (σ' := ⟨[(4, (L 6 e_api_Node t34)), (5, (.v (.int .i64 0)))], []⟩) (.rf rfl rfl) ?_
          refine Ok.loop (fun m38 σ => ∃ (x5_36 : Int), σ = ⟨[(4, (L 6 e_api_Node t34)), (5, (.v (.int .i64 x5_36)))], []⟩ ∧ watchbillref17_valid.l0 k t34 m38 x5_36 = some r) k ⟨0, rfl, H⟩ ?_
          rintro m38 σ ⟨x5_36, rfl, H⟩
          cases m38 with
          | zero => exact absurd H (by simp [watchbillref17_valid.l0])
          | succ m38 =>
            unfold watchbillref17_valid.l0 at H
            refine Ok.seq ?_
            refine Ok.seq ?_
            refine Ok.region (σ' := ⟨[(4, (L 6 e_api_Node t34)), (5, (.v (.int .i64 x5_36))), (65, (.v (.bool (decide (x5_36 < (t34.length : Int))))))], []⟩) ?_ ?_
            · refine .cv (VOk.mv (d := (.v (.int .i64 x5_36))) rfl rfl) rfl rfl ?_
              refine .cv (VOk.mv (d := (L 6 e_api_Node t34)) rfl rfl) rfl rfl ?_
              refine .cv (VOk.lenL (e := e_api_Node) (xs := t34) rfl Try.underlying25 rfl) rfl rfl ?_
              refine .cv (VOk.arith (op := .lss) (k := .i64) (a := x5_36) (b := (t34.length : Int)) rfl rfl rfl rfl) rfl rfl ?_
              exact .done (.rf rfl rfl)
            refine Ok.test (b := (decide (x5_36 < (t34.length : Int)))) rfl (fun hb43 => ?_) (fun hb43 => ?_)
            · replace H := ifT H hb43
              refine Ok.skip ?_
              refine Ok.seq ?_
              refine Ok.block ?_
              refine Ok.seq ?_
              obtain ⟨c39, H⟩ := assertE H
              obtain ⟨t40, h41, H⟩ := bindE H
              refine Ok.region (σ' := ⟨[(4, (L 6 e_api_Node t34)), (5, (.v (.int .i64 x5_36))), (73, (.v (.bool (!t40))))], []⟩) ?_ ?_
              · refine .cv (VOk.mv (d := (L 6 e_api_Node t34)) rfl rfl) rfl rfl ?_
                refine .cv (VOk.mv (d := (.v (.int .i64 x5_36))) rfl rfl) rfl rfl ?_
                refine .cv (VOk.indexL (sz := 6) (e := e_api_Node) (xs := t34) (i := x5_36) rfl Try.underlying25 sz27 rfl rfl c39) rfl rfl ?_
                refine .cv (VOk.to (d' := (.agg (e_api_Node (rd t34 x5_36)))) (.loadFpAgg rfl Try.underlying27 rfl sz27 rfl rfl) rfl) rfl rfl ?_
                refine .cg (GOk.call rfl rfl cl57 rfl (watchbillref17_says.ok h41) rfl) rfl rfl ?_
                refine .cv (VOk.not (b := t40) rfl rfl) rfl rfl ?_
                exact .done (.rf rfl rfl)
              refine Ok.test (b := (!t40)) rfl (fun hb42 => ?_) (fun hb42 => ?_)
              · replace H := ifT H hb42
                refine Ok.seq ?_
                refine Ok.region (σ' := ⟨[(2, (.v (.bool false)))], []⟩) ?_ ?_
                · refine .cv (VOk.asg (d := (.v (.bool false))) rfl rfl) rfl rfl ?_
                  exact .done (.rf rfl rfl)
                refine Ok.ret ?_
                obtain rfl := Option.some.inj H
                exact ⟨.inl rfl, ⟨_, (.cons (.tmp rfl) .nil), rfl⟩, trivial⟩
              · replace H := ifF H hb42
                refine Ok.skip ?_
                refine Ok.region (σ' := ⟨[(4, (L 6 e_api_Node t34)), (5, (.v (.int .i64 (IntKind.i64.wrap (x5_36 + 1)))))], []⟩) ?_ ?_
                · refine .cv (VOk.mv (d := (.v (.int .i64 x5_36))) rfl rfl) rfl rfl ?_
                  refine .cv (VOk.arith (op := .add) (k := .i64) (a := x5_36) (b := 1) rfl rfl rfl rfl) rfl rfl ?_
                  refine .cv (VOk.asg (d := (.v (.int .i64 (IntKind.i64.wrap (x5_36 + 1))))) rfl rfl) rfl rfl ?_
                  exact .done (.rf rfl rfl)
                exact ⟨m38, Nat.lt_succ_self m38, (IntKind.i64.wrap (x5_36 + 1)), rfl, H⟩
            · replace H := ifF H hb43
              refine Ok.exit ?_
              refine Ok.seq ?_
              refine Ok.region (σ' := ⟨[(2, (.v (.bool true)))], []⟩) ?_ ?_
              · refine .cv (VOk.asg (d := (.v (.bool true))) rfl rfl) rfl rfl ?_
                exact .done (.rf rfl rfl)
              refine Ok.ret ?_
              obtain rfl := Option.some.inj H
              exact ⟨.inl rfl, ⟨_, (.cons (.tmp rfl) .nil), rfl⟩, trivial⟩

/-! watchbill/watchbillref16.Told: function 58 -/
def watchbillref16_Told.j1 (c0 : Int → Str → Str → List T_api_Entry → Int → Str → Str → List T_api_Entry → Int → Option T_api_Entry) (t3 : (List T_api_Node)) (y2_0_6 : Int) (y2_1_7 : Str) (y2_2_8 : Str) (y2_3_9 : List T_api_Entry) (y3_0_10 : Int) (y3_1_11 : Str) (y3_2_12 : Str) (y1063_13 : List T_api_Entry) (x5_5 : Int) (t34 : Str) (y7_2_36 : Str) : Option T_api_Entry := (if (y1063_13.length + ([(T_api_Entry.mk ((T_api_Entry.mk 1 t34 ([] : Str) ([] : List T_api_Entry)).Kind) ((T_api_Entry.mk 1 t34 ([] : Str) ([] : List T_api_Entry)).URI) y7_2_36 ((T_api_Entry.mk 1 t34 ([] : Str) ([] : List T_api_Entry)).List_))] : List T_api_Entry).length) * 64 ≤ 140737488355328 then c0 y2_0_6 y2_1_7 y2_2_8 y2_3_9 y3_0_10 y3_1_11 y3_2_12 (y1063_13 ++ ([(T_api_Entry.mk ((T_api_Entry.mk 1 t34 ([] : Str) ([] : List T_api_Entry)).Kind) ((T_api_Entry.mk 1 t34 ([] : Str) ([] : List T_api_Entry)).URI) y7_2_36 ((T_api_Entry.mk 1 t34 ([] : Str) ([] : List T_api_Entry)).List_))] : List T_api_Entry)) (IntKind.i64.wrap (x5_5 + 1)) else none)
def watchbillref16_Told.l0 (k : Nat) (self : T_api_Node → Option T_api_Entry) (t3 : (List T_api_Node)) : Nat → Int → Str → Str → List T_api_Entry → Int → Str → Str → List T_api_Entry → Int → Option T_api_Entry
  | 0, _, _, _, _, _, _, _, _, _ => none
  | m23 + 1, y2_0_6, y2_1_7, y2_2_8, y2_3_9, y3_0_10, y3_1_11, y3_2_12, y1063_13, x5_5 => (if (decide (x5_5 < (t3.length : Int))) = true then (if (0 : Int) ≤ x5_5 ∧ x5_5 < (t3.length : Int) then (if (((rd t3 x5_5).Name.Local) == ([108, 105, 115, 116] : Str)) = true then ((self (rd t3 x5_5)).bind fun (t25 : T_api_Entry) => (if (y1063_13.length + ([t25] : List T_api_Entry).length) * 64 ≤ 140737488355328 then watchbillref16_Told.l0 k self t3 m23 y2_0_6 y2_1_7 y2_2_8 y2_3_9 y3_0_10 y3_1_11 y3_2_12 (y1063_13 ++ ([t25] : List T_api_Entry)) (IntKind.i64.wrap (x5_5 + 1)) else none)) else (if (((rd t3 x5_5).Name.Local) == ([101, 120, 116, 101, 114, 110, 97, 108] : Str)) = true then ((watchbillref16_Attr k (rd t3 x5_5) ([97, 110, 99, 104, 111, 114] : Str)).bind fun (t28 : Str) => (if (y1063_13.length + ([(T_api_Entry.mk 3 t28 ([] : Str) ([] : List T_api_Entry))] : List T_api_Entry).length) * 64 ≤ 140737488355328 then watchbillref16_Told.l0 k self t3 m23 y2_0_6 y2_1_7 y2_2_8 y2_3_9 y3_0_10 y3_1_11 y3_2_12 (y1063_13 ++ ([(T_api_Entry.mk 3 t28 ([] : Str) ([] : List T_api_Entry))] : List T_api_Entry)) (IntKind.i64.wrap (x5_5 + 1)) else none)) else (if (((rd t3 x5_5).Name.Local) == ([101, 110, 116, 114, 121, 45, 114, 101, 102] : Str)) = true then ((watchbillref16_Attr k (rd t3 x5_5) ([114, 101, 102] : Str)).bind fun (t31 : Str) => (if (y1063_13.length + ([(T_api_Entry.mk 4 t31 ([] : Str) ([] : List T_api_Entry))] : List T_api_Entry).length) * 64 ≤ 140737488355328 then watchbillref16_Told.l0 k self t3 m23 y2_0_6 y2_1_7 y2_2_8 y2_3_9 y3_0_10 y3_1_11 y3_2_12 (y1063_13 ++ ([(T_api_Entry.mk 4 t31 ([] : Str) ([] : List T_api_Entry))] : List T_api_Entry)) (IntKind.i64.wrap (x5_5 + 1)) else none)) else (if (((rd t3 x5_5).Name.Local) == ([101, 110, 116, 114, 121] : Str)) = true then ((watchbillref16_Attr k (rd t3 x5_5) ([117, 114, 105] : Str)).bind fun (t34 : Str) => ((watchbillref16_Kids k (rd t3 x5_5) ([117, 114, 110, 58, 105, 101, 116, 102, 58, 112, 97, 114, 97, 109, 115, 58, 120, 109, 108, 58, 110, 115, 58, 114, 101, 115, 111, 117, 114, 99, 101, 45, 108, 105, 115, 116, 115] : Str)).bind fun (t38 : (List T_api_Node)) => (if ((t38.length : Int) == 1) = true then (if (0 : Int) ≤ 0 ∧ 0 < (t38.length : Int) then ((watchbillref04_Value k (rd t38 0)).bind fun (t41 : Str) => ((watchbillref01_Trim k t41).bind fun (t43 : Str) => watchbillref16_Told.j1 (watchbillref16_Told.l0 k self t3 m23) t3 y2_0_6 y2_1_7 y2_2_8 y2_3_9 y3_0_10 y3_1_11 y3_2_12 y1063_13 x5_5 t34 t43)) else none) else watchbillref16_Told.j1 (watchbillref16_Told.l0 k self t3 m23) t3 y2_0_6 y2_1_7 y2_2_8 y2_3_9 y3_0_10 y3_1_11 y3_2_12 y1063_13 x5_5 t34 ((T_api_Entry.mk 1 t34 ([] : Str) ([] : List T_api_Entry)).Name)))) else watchbillref16_Told.l0 k self t3 m23 y2_0_6 y2_1_7 y2_2_8 y2_3_9 y3_0_10 y3_1_11 y3_2_12 y1063_13 (IntKind.i64.wrap (x5_5 + 1)))))) else none) else some (T_api_Entry.mk y3_0_10 y3_1_11 y3_2_12 y1063_13))
def watchbillref16_Told : Nat → T_api_Node → Option T_api_Entry
  | 0, _ => none
  | k + 1, a0 => ((watchbillref16_Attr k a0 ([110, 97, 109, 101] : Str)).bind fun (t1 : Str) => ((watchbillref16_Kids k a0 ([117, 114, 110, 58, 105, 101, 116, 102, 58, 112, 97, 114, 97, 109, 115, 58, 120, 109, 108, 58, 110, 115, 58, 114, 101, 115, 111, 117, 114, 99, 101, 45, 108, 105, 115, 116, 115] : Str)).bind fun (t3 : (List T_api_Node)) => watchbillref16_Told.l0 k (watchbillref16_Told k) t3 k 0 ([] : Str) ([] : Str) ([] : List T_api_Entry) 2 ([] : Str) t1 ([] : List T_api_Entry) 0))
theorem watchbillref16_Told.ok {k : Nat} {a0 : T_api_Node} {r : T_api_Entry} (H : watchbillref16_Told k a0 = some r) : Vx.Fn Try.prog 58 [(.agg (e_api_Node a0))] [] (.agg (e_api_Entry r)) [] := by
  induction k generalizing a0 r with
  | zero => exact absurd H (by simp [watchbillref16_Told])
  | succ k ih =>
    unfold watchbillref16_Told at H
    refine Vx.Fn.of_okR Try.func58 rfl (Nat.le_of_ble_eq_true rfl) ?_
    refine Ok.seq ?_
    refine Ok.region (σ' := ⟨[(1, (.bref 1 0)), (2, (.bref 2 0))], [(1, (.box .ex (c_api_Node a0))), (2, (.box .ex [(.v (.int .i64 0)), (S ([] : Str)), (S ([] : Str)), (L 4 e_api_Entry ([] : List T_api_Entry))]))]⟩) ?_ ?_
    · refine OpsOk.cut1 0 (.agg [(.v (.int .i64 a0.Kind)), (S a0.Name.Space), (S a0.Name.Local), (L 3 e_api_Attr a0.Attrs), (L 6 e_api_Node a0.Kids), (S a0.Text)]) (DLe.of_eq (congrArg D.agg (e_api_Node_c _).symm)) ?_
      refine OpsOk.cons rfl (OpOk.box 1 (cells := [(.v (.int .i64 a0.Kind)), (S a0.Name.Space), (S a0.Name.Local), (L 3 e_api_Attr a0.Attrs), (L 6 e_api_Node a0.Kids), (S a0.Text)]) rfl rfl rfl rfl) ?_
      refine OpsOk.cons rfl (OpOk.alloc 2 [none, none, none, some 4] rfl zo56 rfl rfl) ?_
      exact .done (.rf rfl rfl)
    refine Ok.seq ?_
    obtain ⟨t1, h2, H⟩ := bindE H
    refine Ok.region (σ' := ⟨[(1, (.bref 1 0)), (2, (.bref 2 0)), (3, (.bref 3 0))], [(1, (.box .ex (c_api_Node a0))), (2, (.box .ex [(.v (.int .i64 0)), (S ([] : Str)), (S ([] : Str)), (L 4 e_api_Entry ([] : List T_api_Entry))])), (3, (.box .ex [(.v (.int .i64 2)), (S ([] : Str)), (S t1), (.sref 1063)])), (1063, (.rows true 56 4 (([] : List T_api_Entry).map e_api_Entry)))]⟩) ?_ ?_
    · refine .cv (VOk.to (d' := (.agg (e_api_Node a0))) (.loadBAgg rfl Try.underlying27 rfl sz27 rfl rfl rfl) (congrArg D.agg (e_api_Node_c a0).symm)) rfl rfl ?_
      refine .cg (GOk.call rfl rfl cl55 rfl (watchbillref16_Attr.ok h2) rfl) rfl rfl ?_
      refine .cv (VOk.to (d' := (.agg [(.v (.int .i64 2)), (S ([] : Str)), (S t1), (.v (.slice none 0 0))])) (.build [none, none, none, none] [(0, 1), (1, 1), (2, 1), (3, 1)] rfl Try.underlying56 (fa56 Try.underlying56) zo56 rfl rfl) rfl) rfl rfl ?_
      refine OpsOk.cons rfl (OpOk.alloc 3 [none, none, none, none] rfl zo56 rfl rfl) ?_
      refine OpsOk.sle (SLe.adopt 3 1063 3 56 4 rfl rfl rfl rfl rfl) ?_
      refine OpsOk.cons rfl (OpOk.to (σ2 := St.put ⟨_, (3, (.box .ex [(.v (.int .i64 2)), (S ([] : Str)), (S t1), (.v (.slice none 0 0))])) :: _⟩ _ .junk) (.storeB rfl sz56 rfl rfl rfl rfl rfl rfl) rfl) ?_
      refine OpsOk.sle (SLe.adopt 3 1063 3 56 4 rfl rfl rfl rfl rfl) ?_
      exact .done (.rf rfl rfl)
    refine Ok.seq ?_
    obtain ⟨t3, h4, H⟩ := bindE H
    refine Ok.region (σ' := ⟨[(2, (.bref 2 0)), (3, (.bref 3 0)), (4, (L 6 e_api_Node t3))], [(2, (.box .ex [(.v (.int .i64 0)), (S ([] : Str)), (S ([] : Str)), (L 4 e_api_Entry ([] : List T_api_Entry))])), (3, (.box .ex [(.v (.int .i64 2)), (S ([] : Str)), (S t1), (.sref 1063)])), (1063, (.rows true 56 4 (([] : List T_api_Entry).map e_api_Entry)))]⟩) ?_ ?_
    · refine .cv (VOk.to (d' := (.agg (e_api_Node a0))) (.loadBAgg rfl Try.underlying27 rfl sz27 rfl rfl rfl) (congrArg D.agg (e_api_Node_c a0).symm)) rfl rfl ?_
      refine .cg (GOk.call rfl rfl cl30 rfl (watchbillref16_Kids.ok h4) rfl) rfl rfl ?_
      refine .cv (VOk.asg (d := (L 6 e_api_Node t3)) rfl rfl) rfl rfl ?_
      exact .done (.rf rfl rfl)
    refine Ok.seq ?_
    refine Ok.seq ?_
    refine Ok.region (σ' := ⟨[(2, (.bref 2 0)), (3, (.bref 3 0)), (4, (L 6 e_api_Node t3)), (5, (.v (.int .i64 0)))], [(2, (.box .ex [(.v (.int .i64 0)), (S ([] : Str)), (S ([] : Str)), (L 4 e_api_Entry ([] : List T_api_Entry))])), (3, (.box .ex [(.v (.int .i64 2)), (S ([] : Str)), (S t1), (.sref 1063)])), (1063, (.rows true 56 4 (([] : List T_api_Entry).map e_api_Entry)))]⟩) ?_ ?_
    · refine .cv (VOk.asg (d := (.v (.int .i64 0))) rfl rfl) rfl rfl ?_
      exact .done (.rf rfl rfl)
    refine Ok.block ?_
    refine Ok.le (σ' := ⟨[(2, (.bref 2 0)), (3, (.bref 3 0)), (4, (L 6 e_api_Node t3)), (5, (.v (.int .i64 0)))], [(2, (.box .ex [(.v (.int .i64 0)), (S ([] : Str)), (S ([] : Str)), (L 4 e_api_Entry ([] : List T_api_Entry))])), (3, (.box .ex [(.v (.int .i64 2)), (S ([] : Str)), (S t1), (.sref 1063)])), (1063, (.rows true 56 4 (([] : List T_api_Entry).map e_api_Entry)))]⟩) (.rf rfl rfl) ?_
    refine Ok.loop (fun m23 σ => ∃ (y2_0_6 : Int) (y2_1_7 : Str) (y2_2_8 : Str) (y2_3_9 : List T_api_Entry) (y3_0_10 : Int) (y3_1_11 : Str) (y3_2_12 : Str) (y1063_13 : List T_api_Entry) (x5_5 : Int), σ = ⟨[(2, (.bref 2 0)), (3, (.bref 3 0)), (4, (L 6 e_api_Node t3)), (5, (.v (.int .i64 x5_5)))], [(2, (.box .ex [(.v (.int .i64 y2_0_6)), (S y2_1_7), (S y2_2_8), (L 4 e_api_Entry y2_3_9)])), (3, (.box .ex [(.v (.int .i64 y3_0_10)), (S y3_1_11), (S y3_2_12), (.sref 1063)])), (1063, (.rows true 56 4 (y1063_13.map e_api_Entry)))]⟩ ∧ watchbillref16_Told.l0 k (watchbillref16_Told k) t3 m23 y2_0_6 y2_1_7 y2_2_8 y2_3_9 y3_0_10 y3_1_11 y3_2_12 y1063_13 x5_5 = some r) k ⟨0, ([] : Str), ([] : Str), ([] : List T_api_Entry), 2, ([] : Str), t1, ([] : List T_api_Entry), 0, rfl, H⟩ ?_
    rintro m23 σ ⟨y2_0_6, y2_1_7, y2_2_8, y2_3_9, y3_0_10, y3_1_11, y3_2_12, y1063_13, x5_5, rfl, H⟩
    cases m23 with
    | zero => exact absurd H (by simp [watchbillref16_Told.l0])
    | succ m23 =>
      unfold watchbillref16_Told.l0 at H
      refine Ok.seq ?_
      refine Ok.seq ?_
      refine Ok.region (σ' := ⟨[(2, (.bref 2 0)), (3, (.bref 3 0)), (4, (L 6 e_api_Node t3)), (5, (.v (.int .i64 x5_5))), (17, (.v (.bool (decide (x5_5 < (t3.length : Int))))))], [(2, (.box .ex [(.v (.int .i64 y2_0_6)), (S y2_1_7), (S y2_2_8), (L 4 e_api_Entry y2_3_9)])), (3, (.box .ex [(.v (.int .i64 y3_0_10)), (S y3_1_11), (S y3_2_12), (.sref 1063)])), (1063, (.rows true 56 4 (y1063_13.map e_api_Entry)))]⟩) ?_ ?_
      · refine .cv (VOk.mv (d := (.v (.int .i64 x5_5))) rfl rfl) rfl rfl ?_
        refine .cv (VOk.mv (d := (L 6 e_api_Node t3)) rfl rfl) rfl rfl ?_
        refine .cv (VOk.lenL (e := e_api_Node) (xs := t3) rfl Try.underlying25 rfl) rfl rfl ?_
        refine .cv (VOk.arith (op := .lss) (k := .i64) (a := x5_5) (b := (t3.length : Int)) rfl rfl rfl rfl) rfl rfl ?_
        exact .done (.rf rfl rfl)
      refine Ok.test (b := (decide (x5_5 < (t3.length : Int)))) rfl (fun hb50 => ?_) (fun hb50 => ?_)
      · replace H := ifT H hb50
        refine Ok.skip ?_
        refine Ok.seq ?_
        refine Ok.block ?_
        refine Ok.seq ?_
        obtain ⟨c24, H⟩ := assertE H
        refine Ok.region (σ' := ⟨[(2, (.bref 2 0)), (3, (.bref 3 0)), (4, (L 6 e_api_Node t3)), (5, (.v (.int .i64 x5_5))), (6, (.bref 6 0))], [(2, (.box .ex [(.v (.int .i64 y2_0_6)), (S y2_1_7), (S y2_2_8), (L 4 e_api_Entry y2_3_9)])), (3, (.box .ex [(.v (.int .i64 y3_0_10)), (S y3_1_11), (S y3_2_12), (.sref 1063)])), (6, (.box .ex (c_api_Node (rd t3 x5_5)))), (1063, (.rows true 56 4 (y1063_13.map e_api_Entry)))]⟩) ?_ ?_
        · refine .cv (VOk.mv (d := (L 6 e_api_Node t3)) rfl rfl) rfl rfl ?_
          refine .cv (VOk.mv (d := (.v (.int .i64 x5_5))) rfl rfl) rfl rfl ?_
          refine .cv (VOk.indexL (sz := 6) (e := e_api_Node) (xs := t3) (i := x5_5) rfl Try.underlying25 sz27 rfl rfl c24) rfl rfl ?_
          refine .cv (VOk.to (d' := (.agg (e_api_Node (rd t3 x5_5)))) (.loadFpAgg rfl Try.underlying27 rfl sz27 rfl rfl) rfl) rfl rfl ?_
          refine OpsOk.cons rfl (OpOk.alloc 6 [none, none, none, some 3, some 6, none] rfl zo27 rfl rfl) ?_
          refine OpsOk.cut1 23 (.agg [(.v (.int .i64 ((rd t3 x5_5).Kind))), (S ((rd t3 x5_5).Name.Space)), (S ((rd t3 x5_5).Name.Local)), (L 3 e_api_Attr ((rd t3 x5_5).Attrs)), (L 6 e_api_Node ((rd t3 x5_5).Kids)), (S ((rd t3 x5_5).Text))]) (DLe.of_eq (congrArg D.agg (e_api_Node_c _).symm)) ?_
          refine OpsOk.cons rfl (OpOk.to (σ2 := St.put ⟨_, (6, (.box .ex (c_api_Node (rd t3 x5_5)))) :: _⟩ _ .junk) (.storeB rfl sz27 rfl rfl rfl rfl rfl rfl) rfl) ?_
          exact .done (.rf rfl rfl)
        refine Ok.seq ?_
        refine Ok.region (σ' := ⟨[(2, (.bref 2 0)), (3, (.bref 3 0)), (4, (L 6 e_api_Node t3)), (5, (.v (.int .i64 x5_5))), (6, (.bref 6 0)), (26, (S ((rd t3 x5_5).Name.Local)))], [(2, (.box .ex [(.v (.int .i64 y2_0_6)), (S y2_1_7), (S y2_2_8), (L 4 e_api_Entry y2_3_9)])), (3, (.box .ex [(.v (.int .i64 y3_0_10)), (S y3_1_11), (S y3_2_12), (.sref 1063)])), (6, (.box .ex (c_api_Node (rd t3 x5_5)))), (1063, (.rows true 56 4 (y1063_13.map e_api_Entry)))]⟩) ?_ ?_
        · refine .cv (VOk.to (VOk.fieldB rfl Try.underlying27 rfl sz23 rfl rfl) rfl) rfl rfl ?_
          refine .cv (VOk.to (VOk.fieldB rfl Try.underlying23 rfl sz9 rfl rfl) rfl) rfl rfl ?_
          refine .cv (VOk.loadB (d := (S ((rd t3 x5_5).Name.Local))) rfl Try.underlying9 rfl rfl rfl rfl) rfl rfl ?_
          exact .done (.rf rfl rfl)
        refine Ok.block ?_
        refine Ok.seq ?_
        refine Ok.region (σ' := ⟨[(2, (.bref 2 0)), (3, (.bref 3 0)), (4, (L 6 e_api_Node t3)), (5, (.v (.int .i64 x5_5))), (6, (.bref 6 0)), (26, (S ((rd t3 x5_5).Name.Local))), (27, (.v (.bool (((rd t3 x5_5).Name.Local) == ([108, 105, 115, 116] : Str)))))], [(2, (.box .ex [(.v (.int .i64 y2_0_6)), (S y2_1_7), (S y2_2_8), (L 4 e_api_Entry y2_3_9)])), (3, (.box .ex [(.v (.int .i64 y3_0_10)), (S y3_1_11), (S y3_2_12), (.sref 1063)])), (6, (.box .ex (c_api_Node (rd t3 x5_5)))), (1063, (.rows true 56 4 (y1063_13.map e_api_Entry)))]⟩) ?_ ?_
        · refine .cv (VOk.strOp (op := .eql) (a := (rd t3 x5_5).Name.Local) (b := ([108, 105, 115, 116] : Str)) rfl rfl rfl rfl) rfl rfl ?_
          refine .cv (VOk.asg (d := (.v (.bool (((rd t3 x5_5).Name.Local) == ([108, 105, 115, 116] : Str))))) rfl rfl) rfl rfl ?_
          exact .done (.rf rfl rfl)
        refine Ok.test (b := (((rd t3 x5_5).Name.Local) == ([108, 105, 115, 116] : Str))) rfl (fun hb49 => ?_) (fun hb49 => ?_)
        · replace H := ifT H hb49
          obtain ⟨t25, h26, H⟩ := bindE H
          obtain ⟨c27, H⟩ := assertE H
          refine Ok.le (σ' := ⟨[(2, (.bref 2 0)), (3, (.bref 3 0)), (4, (L 6 e_api_Node t3)), (5, (.v (.int .i64 x5_5))), (6, (.bref 6 0))], [(2, (.box .ex [(.v (.int .i64 y2_0_6)), (S y2_1_7), (S y2_2_8), (L 4 e_api_Entry y2_3_9)])), (3, (.box .ex [(.v (.int .i64 y3_0_10)), (S y3_1_11), (S y3_2_12), (.sref 1063)])), (6, (.box .ex (c_api_Node (rd t3 x5_5)))), (1063, (.rows true 56 4 (y1063_13.map e_api_Entry)))]⟩) (.rf rfl rfl) ?_
          refine Ok.drawE2 (σ' := ⟨[(2, (.bref 2 0)), (3, (.bref 3 0)), (4, (L 6 e_api_Node t3)), (5, (.v (.int .i64 x5_5)))], [(2, (.box .ex [(.v (.int .i64 y2_0_6)), (S y2_1_7), (S y2_2_8), (L 4 e_api_Entry y2_3_9)])), (3, (.box .ex [(.v (.int .i64 y3_0_10)), (S y3_1_11), (S y3_2_12), (.sref 1063)])), (1063, (.rows true 56 4 ((y1063_13 ++ ([t25] : List T_api_Entry)).map e_api_Entry)))]⟩) [⟨true, [(3, (.bref 3 0))], [(3, (.box .ex [(.v (.int .i64 y3_0_10)), (S y3_1_11), (S y3_2_12), (.sref 1063)]))], (.bref 3 3), [], false, []⟩, ⟨true, [(29, (.bref 3 3))], [(3, (.box .ex [(.v (.int .i64 y3_0_10)), (S y3_1_11), (S y3_2_12), (.sref 1063)]))], (.sref 1063), [], false, []⟩, ⟨true, [(6, (.bref 6 0))], [(6, (.box .ex (c_api_Node (rd t3 x5_5))))], (.agg (e_api_Node (rd t3 x5_5))), [], false, []⟩, ⟨true, [(31, (.agg (e_api_Node (rd t3 x5_5))))], [], (.agg (e_api_Entry t25)), [], false, []⟩, ⟨true, [(32, (.agg (e_api_Entry t25)))], [], (L 4 e_api_Entry ([t25] : List T_api_Entry)), [], false, []⟩, ⟨true, [(30, (.sref 1063)), (33, (L 4 e_api_Entry ([t25] : List T_api_Entry)))], [(1063, (.rows true 56 4 (y1063_13.map e_api_Entry)))], (.sref 34), [(34, (.rows true 56 4 ((y1063_13 ++ ([t25] : List T_api_Entry)).map e_api_Entry))), (1063, .none)], true, []⟩, ⟨true, [(3, (.bref 3 0))], [(3, (.box .ex [(.v (.int .i64 y3_0_10)), (S y3_1_11), (S y3_2_12), (.sref 1063)]))], (.bref 3 3), [], false, []⟩, ⟨true, [(35, (.bref 3 3)), (34, (.sref 34))], [(3, (.box .ex [(.v (.int .i64 y3_0_10)), (S y3_1_11), (S y3_2_12), (.sref 1063)])), (34, (.rows true 56 4 ((y1063_13 ++ ([t25] : List T_api_Entry)).map e_api_Entry)))], .junk, [(3, (.box .ex [(.v (.int .i64 y3_0_10)), (S y3_1_11), (S y3_2_12), (.sref 34)]))], false, []⟩] [[], [0], [], [2], [3], [1, 4], [], [0, 1, 5, 6]] mixed (by kernel_rfl) ?_ ?_
          · refine TxtE2.cons ⟨.same _, trivial⟩ ⟨rfl, trivial⟩ (It2.val rfl rfl (fun T hT => (VOk.g (VOk.to (VOk.fieldB rfl Try.underlying56 rfl sz36 rfl hT.1) rfl)))) ?_
            refine TxtE2.cons ⟨.same _, trivial⟩ ⟨rfl, trivial⟩ (It2.val rfl rfl (fun T hT => (VOk.g (VOk.loadB (d := (.sref 1063)) rfl Try.underlying36 rfl rfl hT.1 rfl)))) ?_
            refine TxtE2.cons ⟨.same _, trivial⟩ ⟨rfl, trivial⟩ (It2.val rfl rfl (fun T hT => (VOk.g (VOk.to (d' := (.agg (e_api_Node (rd t3 x5_5)))) (.loadBAgg rfl Try.underlying27 rfl sz27 rfl hT.1 rfl) (congrArg D.agg (e_api_Node_c (rd t3 x5_5)).symm))))) ?_
            refine TxtE2.cons ⟨.same _, trivial⟩ trivial (It2.val rfl rfl (fun T hT => (GOk.call rfl rfl cl58 rfl (@ih _ _ h26) rfl))) ?_
            refine TxtE2.cons ⟨.same _, trivial⟩ trivial (It2.val rfl rfl (fun T hT => (GOk.to (d' := (L 4 e_api_Entry ([t25] : List T_api_Entry))) (GOk.lit rfl Try.underlying36 sz56 zs56 rfl rfl rfl rfl) rfl))) ?_
            refine TxtE2.cons ⟨.same _, .same _, trivial⟩ ⟨rfl, trivial⟩ (It2.appendL 34 (e := e_api_Entry) (xs := y1063_13) (ys := ([t25] : List T_api_Entry)) rfl rfl Try.underlying36 elt56 rfl rfl rfl rfl c27 rfl rfl) ?_
            refine TxtE2.cons ⟨.same _, trivial⟩ ⟨rfl, trivial⟩ (It2.val rfl rfl (fun T hT => (VOk.g (VOk.to (VOk.fieldB rfl Try.underlying56 rfl sz36 rfl hT.1) rfl)))) ?_
            refine TxtE2.cons ⟨.same _, .same _, trivial⟩ ⟨rfl, rfl, trivial⟩ (It2.store rfl rfl sz36 rfl rfl rfl rfl rfl rfl rfl rfl) ?_
            exact .doneS (SLe.trans (Le.s (.rf rfl rfl)) (SLe.ren 34 1063 rfl rfl))
          refine Ok.region (σ' := ⟨[(2, (.bref 2 0)), (3, (.bref 3 0)), (4, (L 6 e_api_Node t3)), (5, (.v (.int .i64 (IntKind.i64.wrap (x5_5 + 1)))))], [(2, (.box .ex [(.v (.int .i64 y2_0_6)), (S y2_1_7), (S y2_2_8), (L 4 e_api_Entry y2_3_9)])), (3, (.box .ex [(.v (.int .i64 y3_0_10)), (S y3_1_11), (S y3_2_12), (.sref 1063)])), (1063, (.rows true 56 4 ((y1063_13 ++ ([t25] : List T_api_Entry)).map e_api_Entry)))]⟩) ?_ ?_
          · refine .cv (VOk.mv (d := (.v (.int .i64 x5_5))) rfl rfl) rfl rfl ?_
            refine .cv (VOk.arith (op := .add) (k := .i64) (a := x5_5) (b := 1) rfl rfl rfl rfl) rfl rfl ?_
            refine .cv (VOk.asg (d := (.v (.int .i64 (IntKind.i64.wrap (x5_5 + 1))))) rfl rfl) rfl rfl ?_
            exact .done (.rf rfl rfl)
          exact ⟨m23, Nat.lt_succ_self m23, y2_0_6, y2_1_7, y2_2_8, y2_3_9, y3_0_10, y3_1_11, y3_2_12, (y1063_13 ++ ([t25] : List T_api_Entry)), (IntKind.i64.wrap (x5_5 + 1)), rfl, H⟩
        · replace H := ifF H hb49
          refine Ok.seq ?_
          refine Ok.region (σ' := ⟨[(2, (.bref 2 0)), (3, (.bref 3 0)), (4, (L 6 e_api_Node t3)), (5, (.v (.int .i64 x5_5))), (6, (.bref 6 0)), (26, (S ((rd t3 x5_5).Name.Local))), (36, (.v (.bool (((rd t3 x5_5).Name.Local) == ([101, 120, 116, 101, 114, 110, 97, 108] : Str)))))], [(2, (.box .ex [(.v (.int .i64 y2_0_6)), (S y2_1_7), (S y2_2_8), (L 4 e_api_Entry y2_3_9)])), (3, (.box .ex [(.v (.int .i64 y3_0_10)), (S y3_1_11), (S y3_2_12), (.sref 1063)])), (6, (.box .ex (c_api_Node (rd t3 x5_5)))), (1063, (.rows true 56 4 (y1063_13.map e_api_Entry)))]⟩) ?_ ?_
          · refine .cv (VOk.strOp (op := .eql) (a := (rd t3 x5_5).Name.Local) (b := ([101, 120, 116, 101, 114, 110, 97, 108] : Str)) rfl rfl rfl rfl) rfl rfl ?_
            refine .cv (VOk.asg (d := (.v (.bool (((rd t3 x5_5).Name.Local) == ([101, 120, 116, 101, 114, 110, 97, 108] : Str))))) rfl rfl) rfl rfl ?_
            exact .done (.rf rfl rfl)
          refine Ok.test (b := (((rd t3 x5_5).Name.Local) == ([101, 120, 116, 101, 114, 110, 97, 108] : Str))) rfl (fun hb48 => ?_) (fun hb48 => ?_)
          · replace H := ifT H hb48
            obtain ⟨t28, h29, H⟩ := bindE H
            obtain ⟨c30, H⟩ := assertE H
            refine Ok.le (σ' := ⟨[(2, (.bref 2 0)), (3, (.bref 3 0)), (4, (L 6 e_api_Node t3)), (5, (.v (.int .i64 x5_5))), (6, (.bref 6 0))], [(2, (.box .ex [(.v (.int .i64 y2_0_6)), (S y2_1_7), (S y2_2_8), (L 4 e_api_Entry y2_3_9)])), (3, (.box .ex [(.v (.int .i64 y3_0_10)), (S y3_1_11), (S y3_2_12), (.sref 1063)])), (6, (.box .ex (c_api_Node (rd t3 x5_5)))), (1063, (.rows true 56 4 (y1063_13.map e_api_Entry)))]⟩) (.rf rfl rfl) ?_
            refine Ok.drawE2 (σ' := ⟨[(2, (.bref 2 0)), (3, (.bref 3 0)), (4, (L 6 e_api_Node t3)), (5, (.v (.int .i64 x5_5)))], [(2, (.box .ex [(.v (.int .i64 y2_0_6)), (S y2_1_7), (S y2_2_8), (L 4 e_api_Entry y2_3_9)])), (3, (.box .ex [(.v (.int .i64 y3_0_10)), (S y3_1_11), (S y3_2_12), (.sref 1063)])), (1063, (.rows true 56 4 ((y1063_13 ++ ([(T_api_Entry.mk 3 t28 ([] : Str) ([] : List T_api_Entry))] : List T_api_Entry)).map e_api_Entry)))]⟩) [⟨true, [(3, (.bref 3 0))], [(3, (.box .ex [(.v (.int .i64 y3_0_10)), (S y3_1_11), (S y3_2_12), (.sref 1063)]))], (.bref 3 3), [], false, []⟩, ⟨true, [(38, (.bref 3 3))], [(3, (.box .ex [(.v (.int .i64 y3_0_10)), (S y3_1_11), (S y3_2_12), (.sref 1063)]))], (.sref 1063), [], false, []⟩, ⟨true, [(6, (.bref 6 0))], [(6, (.box .ex (c_api_Node (rd t3 x5_5))))], (.agg (e_api_Node (rd t3 x5_5))), [], false, []⟩, ⟨true, [(40, (.agg (e_api_Node (rd t3 x5_5))))], [], (S t28), [], false, []⟩, ⟨true, [(41, (S t28))], [], (.agg (e_api_Entry (T_api_Entry.mk 3 t28 ([] : Str) ([] : List T_api_Entry)))), [], false, []⟩, ⟨true, [(42, (.agg (e_api_Entry (T_api_Entry.mk 3 t28 ([] : Str) ([] : List T_api_Entry)))))], [], (L 4 e_api_Entry ([(T_api_Entry.mk 3 t28 ([] : Str) ([] : List T_api_Entry))] : List T_api_Entry)), [], false, []⟩, ⟨true, [(39, (.sref 1063)), (43, (L 4 e_api_Entry ([(T_api_Entry.mk 3 t28 ([] : Str) ([] : List T_api_Entry))] : List T_api_Entry)))], [(1063, (.rows true 56 4 (y1063_13.map e_api_Entry)))], (.sref 44), [(44, (.rows true 56 4 ((y1063_13 ++ ([(T_api_Entry.mk 3 t28 ([] : Str) ([] : List T_api_Entry))] : List T_api_Entry)).map e_api_Entry))), (1063, .none)], true, []⟩, ⟨true, [(3, (.bref 3 0))], [(3, (.box .ex [(.v (.int .i64 y3_0_10)), (S y3_1_11), (S y3_2_12), (.sref 1063)]))], (.bref 3 3), [], false, []⟩, ⟨true, [(45, (.bref 3 3)), (44, (.sref 44))], [(3, (.box .ex [(.v (.int .i64 y3_0_10)), (S y3_1_11), (S y3_2_12), (.sref 1063)])), (44, (.rows true 56 4 ((y1063_13 ++ ([(T_api_Entry.mk 3 t28 ([] : Str) ([] : List T_api_Entry))] : List T_api_Entry)).map e_api_Entry)))], .junk, [(3, (.box .ex [(.v (.int .i64 y3_0_10)), (S y3_1_11), (S y3_2_12), (.sref 44)]))], false, []⟩] [[], [0], [], [2], [3], [4], [1, 5], [], [0, 1, 6, 7]] mixed (by kernel_rfl) ?_ ?_
            · refine TxtE2.cons ⟨.same _, trivial⟩ ⟨rfl, trivial⟩ (It2.val rfl rfl (fun T hT => (VOk.g (VOk.to (VOk.fieldB rfl Try.underlying56 rfl sz36 rfl hT.1) rfl)))) ?_
              refine TxtE2.cons ⟨.same _, trivial⟩ ⟨rfl, trivial⟩ (It2.val rfl rfl (fun T hT => (VOk.g (VOk.loadB (d := (.sref 1063)) rfl Try.underlying36 rfl rfl hT.1 rfl)))) ?_
              refine TxtE2.cons ⟨.same _, trivial⟩ ⟨rfl, trivial⟩ (It2.val rfl rfl (fun T hT => (VOk.g (VOk.to (d' := (.agg (e_api_Node (rd t3 x5_5)))) (.loadBAgg rfl Try.underlying27 rfl sz27 rfl hT.1 rfl) (congrArg D.agg (e_api_Node_c (rd t3 x5_5)).symm))))) ?_
              refine TxtE2.cons ⟨.same _, trivial⟩ trivial (It2.val rfl rfl (fun T hT => (GOk.call rfl rfl cl55 rfl (watchbillref16_Attr.ok h29) rfl))) ?_
              refine TxtE2.cons ⟨.same _, trivial⟩ trivial (It2.val rfl rfl (fun T hT => (VOk.g (VOk.to (d' := (.agg (e_api_Entry (T_api_Entry.mk 3 t28 ([] : Str) ([] : List T_api_Entry))))) (.build [none, none, none, some 4] [(0, 1), (1, 1), (2, 1), (3, 1)] rfl Try.underlying56 (fa56 Try.underlying56) zo56 rfl rfl) (congrArg D.agg (e_api_Entry_c (T_api_Entry.mk 3 t28 ([] : Str) ([] : List T_api_Entry))).symm))))) ?_
              refine TxtE2.cons ⟨.same _, trivial⟩ trivial (It2.val rfl rfl (fun T hT => (GOk.to (d' := (L 4 e_api_Entry ([(T_api_Entry.mk 3 t28 ([] : Str) ([] : List T_api_Entry))] : List T_api_Entry))) (GOk.lit rfl Try.underlying36 sz56 zs56 rfl rfl rfl rfl) rfl))) ?_
              refine TxtE2.cons ⟨.same _, .same _, trivial⟩ ⟨rfl, trivial⟩ (It2.appendL 44 (e := e_api_Entry) (xs := y1063_13) (ys := ([(T_api_Entry.mk 3 t28 ([] : Str) ([] : List T_api_Entry))] : List T_api_Entry)) rfl rfl Try.underlying36 elt56 rfl rfl rfl rfl c30 rfl rfl) ?_
              refine TxtE2.cons ⟨.same _, trivial⟩ ⟨rfl, trivial⟩ (It2.val rfl rfl (fun T hT => (VOk.g (VOk.to (VOk.fieldB rfl Try.underlying56 rfl sz36 rfl hT.1) rfl)))) ?_
              refine TxtE2.cons ⟨.same _, .same _, trivial⟩ ⟨rfl, rfl, trivial⟩ (It2.store rfl rfl sz36 rfl rfl rfl rfl rfl rfl rfl rfl) ?_
              exact .doneS (SLe.trans (Le.s (.rf rfl rfl)) (SLe.ren 44 1063 rfl rfl))
            refine Ok.region (σ' := ⟨[(2, (.bref 2 0)), (3, (.bref 3 0)), (4, (L 6 e_api_Node t3)), (5, (.v (.int .i64 (IntKind.i64.wrap (x5_5 + 1)))))], [(2, (.box .ex [(.v (.int .i64 y2_0_6)), (S y2_1_7), (S y2_2_8), (L 4 e_api_Entry y2_3_9)])), (3, (.box .ex [(.v (.int .i64 y3_0_10)), (S y3_1_11), (S y3_2_12), (.sref 1063)])), (1063, (.rows true 56 4 ((y1063_13 ++ ([(T_api_Entry.mk 3 t28 ([] : Str) ([] : List T_api_Entry))] : List T_api_Entry)).map e_api_Entry)))]⟩) ?_ ?_
            · refine .cv (VOk.mv (d := (.v (.int .i64 x5_5))) rfl rfl) rfl rfl ?_
              refine .cv (VOk.arith (op := .add) (k := .i64) (a := x5_5) (b := 1) rfl rfl rfl rfl) rfl rfl ?_
              refine .cv (VOk.asg (d := (.v (.int .i64 (IntKind.i64.wrap (x5_5 + 1))))) rfl rfl) rfl rfl ?_
              exact .done (.rf rfl rfl)
            exact ⟨m23, Nat.lt_succ_self m23, y2_0_6, y2_1_7, y2_2_8, y2_3_9, y3_0_10, y3_1_11, y3_2_12, (y1063_13 ++ ([(T_api_Entry.mk 3 t28 ([] : Str) ([] : List T_api_Entry))] : List T_api_Entry)), (IntKind.i64.wrap (x5_5 + 1)), rfl, H⟩
          · replace H := ifF H hb48
            refine Ok.seq ?_
            refine Ok.region (σ' := ⟨[(2, (.bref 2 0)), (3, (.bref 3 0)), (4, (L 6 e_api_Node t3)), (5, (.v (.int .i64 x5_5))), (6, (.bref 6 0)), (26, (S ((rd t3 x5_5).Name.Local))), (46, (.v (.bool (((rd t3 x5_5).Name.Local) == ([101, 110, 116, 114, 121, 45, 114, 101, 102] : Str)))))], [(2, (.box .ex [(.v (.int .i64 y2_0_6)), (S y2_1_7), (S y2_2_8), (L 4 e_api_Entry y2_3_9)])), (3, (.box .ex [(.v (.int .i64 y3_0_10)), (S y3_1_11), (S y3_2_12), (.sref 1063)])), (6, (.box .ex (c_api_Node (rd t3 x5_5)))), (1063, (.rows true 56 4 (y1063_13.map e_api_Entry)))]⟩) ?_ ?_
            · refine .cv (VOk.strOp (op := .eql) (a := (rd t3 x5_5).Name.Local) (b := ([101, 110, 116, 114, 121, 45, 114, 101, 102] : Str)) rfl rfl rfl rfl) rfl rfl ?_
              refine .cv (VOk.asg (d := (.v (.bool (((rd t3 x5_5).Name.Local) == ([101, 110, 116, 114, 121, 45, 114, 101, 102] : Str))))) rfl rfl) rfl rfl ?_
              exact .done (.rf rfl rfl)
            refine Ok.test (b := (((rd t3 x5_5).Name.Local) == ([101, 110, 116, 114, 121, 45, 114, 101, 102] : Str))) rfl (fun hb47 => ?_) (fun hb47 => ?_)
            · replace H := ifT H hb47
              obtain ⟨t31, h32, H⟩ := bindE H
              obtain ⟨c33, H⟩ := assertE H
              refine Ok.le (σ' := ⟨[(2, (.bref 2 0)), (3, (.bref 3 0)), (4, (L 6 e_api_Node t3)), (5, (.v (.int .i64 x5_5))), (6, (.bref 6 0))], [(2, (.box .ex [(.v (.int .i64 y2_0_6)), (S y2_1_7), (S y2_2_8), (L 4 e_api_Entry y2_3_9)])), (3, (.box .ex [(.v (.int .i64 y3_0_10)), (S y3_1_11), (S y3_2_12), (.sref 1063)])), (6, (.box .ex (c_api_Node (rd t3 x5_5)))), (1063, (.rows true 56 4 (y1063_13.map e_api_Entry)))]⟩) (.rf rfl rfl) ?_
              refine Ok.drawE2 (σ' := ⟨[(2, (.bref 2 0)), (3, (.bref 3 0)), (4, (L 6 e_api_Node t3)), (5, (.v (.int .i64 x5_5)))], [(2, (.box .ex [(.v (.int .i64 y2_0_6)), (S y2_1_7), (S y2_2_8), (L 4 e_api_Entry y2_3_9)])), (3, (.box .ex [(.v (.int .i64 y3_0_10)), (S y3_1_11), (S y3_2_12), (.sref 1063)])), (1063, (.rows true 56 4 ((y1063_13 ++ ([(T_api_Entry.mk 4 t31 ([] : Str) ([] : List T_api_Entry))] : List T_api_Entry)).map e_api_Entry)))]⟩) [⟨true, [(3, (.bref 3 0))], [(3, (.box .ex [(.v (.int .i64 y3_0_10)), (S y3_1_11), (S y3_2_12), (.sref 1063)]))], (.bref 3 3), [], false, []⟩, ⟨true, [(48, (.bref 3 3))], [(3, (.box .ex [(.v (.int .i64 y3_0_10)), (S y3_1_11), (S y3_2_12), (.sref 1063)]))], (.sref 1063), [], false, []⟩, ⟨true, [(6, (.bref 6 0))], [(6, (.box .ex (c_api_Node (rd t3 x5_5))))], (.agg (e_api_Node (rd t3 x5_5))), [], false, []⟩, ⟨true, [(50, (.agg (e_api_Node (rd t3 x5_5))))], [], (S t31), [], false, []⟩, ⟨true, [(51, (S t31))], [], (.agg (e_api_Entry (T_api_Entry.mk 4 t31 ([] : Str) ([] : List T_api_Entry)))), [], false, []⟩, ⟨true, [(52, (.agg (e_api_Entry (T_api_Entry.mk 4 t31 ([] : Str) ([] : List T_api_Entry)))))], [], (L 4 e_api_Entry ([(T_api_Entry.mk 4 t31 ([] : Str) ([] : List T_api_Entry))] : List T_api_Entry)), [], false, []⟩, ⟨true, [(49, (.sref 1063)), (53, (L 4 e_api_Entry ([(T_api_Entry.mk 4 t31 ([] : Str) ([] : List T_api_Entry))] : List T_api_Entry)))], [(1063, (.rows true 56 4 (y1063_13.map e_api_Entry)))], (.sref 54), [(54, (.rows true 56 4 ((y1063_13 ++ ([(T_api_Entry.mk 4 t31 ([] : Str) ([] : List T_api_Entry))] : List T_api_Entry)).map e_api_Entry))), (1063, .none)], true, []⟩, ⟨true, [(3, (.bref 3 0))], [(3, (.box .ex [(.v (.int .i64 y3_0_10)), (S y3_1_11), (S y3_2_12), (.sref 1063)]))], (.bref 3 3), [], false, []⟩, ⟨true, [(55, (.bref 3 3)), (54, (.sref 54))], [(3, (.box .ex [(.v (.int .i64 y3_0_10)), (S y3_1_11), (S y3_2_12), (.sref 1063)])), (54, (.rows true 56 4 ((y1063_13 ++ ([(T_api_Entry.mk 4 t31 ([] : Str) ([] : List T_api_Entry))] : List T_api_Entry)).map e_api_Entry)))], .junk, [(3, (.box .ex [(.v (.int .i64 y3_0_10)), (S y3_1_11), (S y3_2_12), (.sref 54)]))], false, []⟩] [[], [0], [], [2], [3], [4], [1, 5], [], [0, 1, 6, 7]] mixed (by kernel_rfl) ?_ ?_
              · refine TxtE2.cons ⟨.same _, trivial⟩ ⟨rfl, trivial⟩ (It2.val rfl rfl (fun T hT => (VOk.g (VOk.to (VOk.fieldB rfl Try.underlying56 rfl sz36 rfl hT.1) rfl)))) ?_
                refine TxtE2.cons ⟨.same _, trivial⟩ ⟨rfl, trivial⟩ (It2.val rfl rfl (fun T hT => (VOk.g (VOk.loadB (d := (.sref 1063)) rfl Try.underlying36 rfl rfl hT.1 rfl)))) ?_
                refine TxtE2.cons ⟨.same _, trivial⟩ ⟨rfl, trivial⟩ (It2.val rfl rfl (fun T hT => (VOk.g (VOk.to (d' := (.agg (e_api_Node (rd t3 x5_5)))) (.loadBAgg rfl Try.underlying27 rfl sz27 rfl hT.1 rfl) (congrArg D.agg (e_api_Node_c (rd t3 x5_5)).symm))))) ?_
                refine TxtE2.cons ⟨.same _, trivial⟩ trivial (It2.val rfl rfl (fun T hT => (GOk.call rfl rfl cl55 rfl (watchbillref16_Attr.ok h32) rfl))) ?_
                refine TxtE2.cons ⟨.same _, trivial⟩ trivial (It2.val rfl rfl (fun T hT => (VOk.g (VOk.to (d' := (.agg (e_api_Entry (T_api_Entry.mk 4 t31 ([] : Str) ([] : List T_api_Entry))))) (.build [none, none, none, some 4] [(0, 1), (1, 1), (2, 1), (3, 1)] rfl Try.underlying56 (fa56 Try.underlying56) zo56 rfl rfl) (congrArg D.agg (e_api_Entry_c (T_api_Entry.mk 4 t31 ([] : Str) ([] : List T_api_Entry))).symm))))) ?_
                refine TxtE2.cons ⟨.same _, trivial⟩ trivial (It2.val rfl rfl (fun T hT => (GOk.to (d' := (L 4 e_api_Entry ([(T_api_Entry.mk 4 t31 ([] : Str) ([] : List T_api_Entry))] : List T_api_Entry))) (GOk.lit rfl Try.underlying36 sz56 zs56 rfl rfl rfl rfl) rfl))) ?_
                refine TxtE2.cons ⟨.same _, .same _, trivial⟩ ⟨rfl, trivial⟩ (It2.appendL 54 (e := e_api_Entry) (xs := y1063_13) (ys := ([(T_api_Entry.mk 4 t31 ([] : Str) ([] : List T_api_Entry))] : List T_api_Entry)) rfl rfl Try.underlying36 elt56 rfl rfl rfl rfl c33 rfl rfl) ?_
                refine TxtE2.cons ⟨.same _, trivial⟩ ⟨rfl, trivial⟩ (It2.val rfl rfl (fun T hT => (VOk.g (VOk.to (VOk.fieldB rfl Try.underlying56 rfl sz36 rfl hT.1) rfl)))) ?_
                refine TxtE2.cons ⟨.same _, .same _, trivial⟩ ⟨rfl, rfl, trivial⟩ (It2.store rfl rfl sz36 rfl rfl rfl rfl rfl rfl rfl rfl) ?_
                exact .doneS (SLe.trans (Le.s (.rf rfl rfl)) (SLe.ren 54 1063 rfl rfl))
              refine Ok.region (σ' := ⟨[(2, (.bref 2 0)), (3, (.bref 3 0)), (4, (L 6 e_api_Node t3)), (5, (.v (.int .i64 (IntKind.i64.wrap (x5_5 + 1)))))], [(2, (.box .ex [(.v (.int .i64 y2_0_6)), (S y2_1_7), (S y2_2_8), (L 4 e_api_Entry y2_3_9)])), (3, (.box .ex [(.v (.int .i64 y3_0_10)), (S y3_1_11), (S y3_2_12), (.sref 1063)])), (1063, (.rows true 56 4 ((y1063_13 ++ ([(T_api_Entry.mk 4 t31 ([] : Str) ([] : List T_api_Entry))] : List T_api_Entry)).map e_api_Entry)))]⟩) ?_ ?_
              · refine .cv (VOk.mv (d := (.v (.int .i64 x5_5))) rfl rfl) rfl rfl ?_
                refine .cv (VOk.arith (op := .add) (k := .i64) (a := x5_5) (b := 1) rfl rfl rfl rfl) rfl rfl ?_
                refine .cv (VOk.asg (d := (.v (.int .i64 (IntKind.i64.wrap (x5_5 + 1))))) rfl rfl) rfl rfl ?_
                exact .done (.rf rfl rfl)
              exact ⟨m23, Nat.lt_succ_self m23, y2_0_6, y2_1_7, y2_2_8, y2_3_9, y3_0_10, y3_1_11, y3_2_12, (y1063_13 ++ ([(T_api_Entry.mk 4 t31 ([] : Str) ([] : List T_api_Entry))] : List T_api_Entry)), (IntKind.i64.wrap (x5_5 + 1)), rfl, H⟩
            · replace H := ifF H hb47
              refine Ok.seq ?_
              refine Ok.region (σ' := ⟨[(2, (.bref 2 0)), (3, (.bref 3 0)), (4, (L 6 e_api_Node t3)), (5, (.v (.int .i64 x5_5))), (6, (.bref 6 0)), (56, (.v (.bool (((rd t3 x5_5).Name.Local) == ([101, 110, 116, 114, 121] : Str)))))], [(2, (.box .ex [(.v (.int .i64 y2_0_6)), (S y2_1_7), (S y2_2_8), (L 4 e_api_Entry y2_3_9)])), (3, (.box .ex [(.v (.int .i64 y3_0_10)), (S y3_1_11), (S y3_2_12), (.sref 1063)])), (6, (.box .ex (c_api_Node (rd t3 x5_5)))), (1063, (.rows true 56 4 (y1063_13.map e_api_Entry)))]⟩) ?_ ?_
              · refine .cv (VOk.strOp (op := .eql) (a := (rd t3 x5_5).Name.Local) (b := ([101, 110, 116, 114, 121] : Str)) rfl rfl rfl rfl) rfl rfl ?_
                refine .cv (VOk.asg (d := (.v (.bool (((rd t3 x5_5).Name.Local) == ([101, 110, 116, 114, 121] : Str))))) rfl rfl) rfl rfl ?_
                exact .done (.rf rfl rfl)
              refine Ok.test (b := (((rd t3 x5_5).Name.Local) == ([101, 110, 116, 114, 121] : Str))) rfl (fun hb46 => ?_) (fun hb46 => ?_)
              · replace H := ifT H hb46
                refine Ok.seq ?_
                obtain ⟨t34, h35, H⟩ := bindE H
                refine Ok.region (σ' := ⟨[(2, (.bref 2 0)), (3, (.bref 3 0)), (4, (L 6 e_api_Node t3)), (5, (.v (.int .i64 x5_5))), (6, (.bref 6 0)), (7, (.bref 7 0))], [(2, (.box .ex [(.v (.int .i64 y2_0_6)), (S y2_1_7), (S y2_2_8), (L 4 e_api_Entry y2_3_9)])), (3, (.box .ex [(.v (.int .i64 y3_0_10)), (S y3_1_11), (S y3_2_12), (.sref 1063)])), (6, (.box .ex (c_api_Node (rd t3 x5_5)))), (7, (.box .ex (c_api_Entry (T_api_Entry.mk 1 t34 ([] : Str) ([] : List T_api_Entry))))), (1063, (.rows true 56 4 (y1063_13.map e_api_Entry)))]⟩) ?_ ?_
                · refine .cv (VOk.to (d' := (.agg (e_api_Node (rd t3 x5_5)))) (.loadBAgg rfl Try.underlying27 rfl sz27 rfl rfl rfl) (congrArg D.agg (e_api_Node_c (rd t3 x5_5)).symm)) rfl rfl ?_
                  refine .cg (GOk.call rfl rfl cl55 rfl (watchbillref16_Attr.ok h35) rfl) rfl rfl ?_
                  refine .cv (VOk.to (d' := (.agg (e_api_Entry (T_api_Entry.mk 1 t34 ([] : Str) ([] : List T_api_Entry))))) (.build [none, none, none, some 4] [(0, 1), (1, 1), (2, 1), (3, 1)] rfl Try.underlying56 (fa56 Try.underlying56) zo56 rfl rfl) (congrArg D.agg (e_api_Entry_c (T_api_Entry.mk 1 t34 ([] : Str) ([] : List T_api_Entry))).symm)) rfl rfl ?_
                  refine OpsOk.cons rfl (OpOk.alloc 7 [none, none, none, some 4] rfl zo56 rfl rfl) ?_
                  refine OpsOk.cut1 60 (.agg [(.v (.int .i64 ((T_api_Entry.mk 1 t34 ([] : Str) ([] : List T_api_Entry)).Kind))), (S ((T_api_Entry.mk 1 t34 ([] : Str) ([] : List T_api_Entry)).URI)), (S ((T_api_Entry.mk 1 t34 ([] : Str) ([] : List T_api_Entry)).Name)), (L 4 e_api_Entry ((T_api_Entry.mk 1 t34 ([] : Str) ([] : List T_api_Entry)).List_))]) (DLe.of_eq (congrArg D.agg (e_api_Entry_c _).symm)) ?_
                  refine OpsOk.cons rfl (OpOk.to (σ2 := St.put ⟨_, (7, (.box .ex (c_api_Entry (T_api_Entry.mk 1 t34 ([] : Str) ([] : List T_api_Entry))))) :: _⟩ _ .junk) (.storeB rfl sz56 rfl rfl rfl rfl rfl rfl) rfl) ?_
                  exact .done (.rf rfl rfl)
                refine Ok.meet (fun σ => ∃ (y7_2_36 : Str), σ = ⟨[(2, (.bref 2 0)), (3, (.bref 3 0)), (4, (L 6 e_api_Node t3)), (5, (.v (.int .i64 x5_5))), (7, (.bref 7 0))], [(2, (.box .ex [(.v (.int .i64 y2_0_6)), (S y2_1_7), (S y2_2_8), (L 4 e_api_Entry y2_3_9)])), (3, (.box .ex [(.v (.int .i64 y3_0_10)), (S y3_1_11), (S y3_2_12), (.sref 1063)])), (7, (.box .ex [(.v (.int .i64 ((T_api_Entry.mk 1 t34 ([] : Str) ([] : List T_api_Entry)).Kind))), (S ((T_api_Entry.mk 1 t34 ([] : Str) ([] : List T_api_Entry)).URI)), (S y7_2_36), (L 4 e_api_Entry ((T_api_Entry.mk 1 t34 ([] : Str) ([] : List T_api_Entry)).List_))])), (1063, (.rows true 56 4 (y1063_13.map e_api_Entry)))]⟩ ∧ watchbillref16_Told.j1 (watchbillref16_Told.l0 k (watchbillref16_Told k) t3 m23) t3 y2_0_6 y2_1_7 y2_2_8 y2_3_9 y3_0_10 y3_1_11 y3_2_12 y1063_13 x5_5 t34 y7_2_36 = some r) ?_ ?_
                · refine Ok.seq ?_
                  obtain ⟨t38, h39, H⟩ := bindE H
                  refine Ok.region (σ' := ⟨[(2, (.bref 2 0)), (3, (.bref 3 0)), (4, (L 6 e_api_Node t3)), (5, (.v (.int .i64 x5_5))), (7, (.bref 7 0)), (8, (L 6 e_api_Node t38))], [(2, (.box .ex [(.v (.int .i64 y2_0_6)), (S y2_1_7), (S y2_2_8), (L 4 e_api_Entry y2_3_9)])), (3, (.box .ex [(.v (.int .i64 y3_0_10)), (S y3_1_11), (S y3_2_12), (.sref 1063)])), (7, (.box .ex (c_api_Entry (T_api_Entry.mk 1 t34 ([] : Str) ([] : List T_api_Entry))))), (1063, (.rows true 56 4 (y1063_13.map e_api_Entry)))]⟩) ?_ ?_
                  · refine .cv (VOk.to (d' := (.agg (e_api_Node (rd t3 x5_5)))) (.loadBAgg rfl Try.underlying27 rfl sz27 rfl rfl rfl) (congrArg D.agg (e_api_Node_c (rd t3 x5_5)).symm)) rfl rfl ?_
                    refine .cg (GOk.call rfl rfl cl30 rfl (watchbillref16_Kids.ok h39) rfl) rfl rfl ?_
                    refine .cv (VOk.asg (d := (L 6 e_api_Node t38)) rfl rfl) rfl rfl ?_
                    exact .done (.rf rfl rfl)
                  refine Ok.seq ?_
                  refine Ok.region (σ' := ⟨[(2, (.bref 2 0)), (3, (.bref 3 0)), (4, (L 6 e_api_Node t3)), (5, (.v (.int .i64 x5_5))), (7, (.bref 7 0)), (8, (L 6 e_api_Node t38)), (65, (.v (.bool ((t38.length : Int) == 1))))], [(2, (.box .ex [(.v (.int .i64 y2_0_6)), (S y2_1_7), (S y2_2_8), (L 4 e_api_Entry y2_3_9)])), (3, (.box .ex [(.v (.int .i64 y3_0_10)), (S y3_1_11), (S y3_2_12), (.sref 1063)])), (7, (.box .ex (c_api_Entry (T_api_Entry.mk 1 t34 ([] : Str) ([] : List T_api_Entry))))), (1063, (.rows true 56 4 (y1063_13.map e_api_Entry)))]⟩) ?_ ?_
                  · refine .cv (VOk.mv (d := (L 6 e_api_Node t38)) rfl rfl) rfl rfl ?_
                    refine .cv (VOk.lenL (e := e_api_Node) (xs := t38) rfl Try.underlying25 rfl) rfl rfl ?_
                    refine .cv (VOk.arith (op := .eql) (k := .i64) (a := (t38.length : Int)) (b := 1) rfl rfl rfl rfl) rfl rfl ?_
                    exact .done (.rf rfl rfl)
                  refine Ok.test (b := ((t38.length : Int) == 1)) rfl (fun hb45 => ?_) (fun hb45 => ?_)
                  · replace H := ifT H hb45
                    obtain ⟨c40, H⟩ := assertE H
                    obtain ⟨t41, h42, H⟩ := bindE H
                    obtain ⟨t43, h44, H⟩ := bindE H
                    refine Ok.region (σ' := ⟨[(2, (.bref 2 0)), (3, (.bref 3 0)), (4, (L 6 e_api_Node t3)), (5, (.v (.int .i64 x5_5))), (7, (.bref 7 0))], [(2, (.box .ex [(.v (.int .i64 y2_0_6)), (S y2_1_7), (S y2_2_8), (L 4 e_api_Entry y2_3_9)])), (3, (.box .ex [(.v (.int .i64 y3_0_10)), (S y3_1_11), (S y3_2_12), (.sref 1063)])), (7, (.box .ex [(.v (.int .i64 ((T_api_Entry.mk 1 t34 ([] : Str) ([] : List T_api_Entry)).Kind))), (S ((T_api_Entry.mk 1 t34 ([] : Str) ([] : List T_api_Entry)).URI)), (S t43), (L 4 e_api_Entry ((T_api_Entry.mk 1 t34 ([] : Str) ([] : List T_api_Entry)).List_))])), (1063, (.rows true 56 4 (y1063_13.map e_api_Entry)))]⟩) ?_ ?_
                    · refine .cv (VOk.mv (d := (L 6 e_api_Node t38)) rfl rfl) rfl rfl ?_
                      refine .cv (VOk.indexL (sz := 6) (e := e_api_Node) (xs := t38) (i := 0) rfl Try.underlying25 sz27 rfl rfl c40) rfl rfl ?_
                      refine .cv (VOk.to (d' := (.agg (e_api_Node (rd t38 0)))) (.loadFpAgg rfl Try.underlying27 rfl sz27 rfl rfl) rfl) rfl rfl ?_
                      refine .cg (GOk.call rfl rfl cl76 rfl (watchbillref04_Value.ok h42) rfl) rfl rfl ?_
                      refine .cg (GOk.call rfl rfl cl53 rfl (watchbillref01_Trim.ok h44) rfl) rfl rfl ?_
                      refine .cv (VOk.to (VOk.fieldB rfl Try.underlying56 rfl sz9 rfl rfl) rfl) rfl rfl ?_
                      refine OpsOk.cons rfl (OpOk.to (σ2 := St.put ⟨_, (7, (.box .ex [(.v (.int .i64 ((T_api_Entry.mk 1 t34 ([] : Str) ([] : List T_api_Entry)).Kind))), (S ((T_api_Entry.mk 1 t34 ([] : Str) ([] : List T_api_Entry)).URI)), (S t43), (L 4 e_api_Entry ((T_api_Entry.mk 1 t34 ([] : Str) ([] : List T_api_Entry)).List_))])) :: _⟩ _ .junk) (.storeB rfl sz9 rfl rfl rfl rfl rfl rfl) rfl) ?_
                      exact .done (.rf rfl rfl)
                    exact ⟨t43, rfl, H⟩
                  · replace H := ifF H hb45
                    refine Ok.le (σ' := ⟨[(2, (.bref 2 0)), (3, (.bref 3 0)), (4, (L 6 e_api_Node t3)), (5, (.v (.int .i64 x5_5))), (7, (.bref 7 0))], [(2, (.box .ex [(.v (.int .i64 y2_0_6)), (S y2_1_7), (S y2_2_8), (L 4 e_api_Entry y2_3_9)])), (3, (.box .ex [(.v (.int .i64 y3_0_10)), (S y3_1_11), (S y3_2_12), (.sref 1063)])), (7, (.box .ex (c_api_Entry (T_api_Entry.mk 1 t34 ([] : Str) ([] : List T_api_Entry))))), (1063, (.rows true 56 4 (y1063_13.map e_api_Entry)))]⟩) (.rf rfl rfl) ?_
                    refine Ok.skip ?_
                    exact ⟨((T_api_Entry.mk 1 t34 ([] : Str) ([] : List T_api_Entry)).Name), rfl, H⟩
                · rintro σ ⟨y7_2_36, rfl, H⟩
                  unfold watchbillref16_Told.j1 at H
                  obtain ⟨c37, H⟩ := assertE H
                  refine Ok.region (σ' := ⟨[(2, (.bref 2 0)), (3, (.bref 3 0)), (4, (L 6 e_api_Node t3)), (5, (.v (.int .i64 x5_5)))], [(2, (.box .ex [(.v (.int .i64 y2_0_6)), (S y2_1_7), (S y2_2_8), (L 4 e_api_Entry y2_3_9)])), (3, (.box .ex [(.v (.int .i64 y3_0_10)), (S y3_1_11), (S y3_2_12), (.sref 1063)])), (1063, (.rows true 56 4 ((y1063_13 ++ ([(T_api_Entry.mk ((T_api_Entry.mk 1 t34 ([] : Str) ([] : List T_api_Entry)).Kind) ((T_api_Entry.mk 1 t34 ([] : Str) ([] : List T_api_Entry)).URI) y7_2_36 ((T_api_Entry.mk 1 t34 ([] : Str) ([] : List T_api_Entry)).List_))] : List T_api_Entry)).map e_api_Entry)))]⟩) ?_ ?_
                  · refine .cv (VOk.to (VOk.fieldB rfl Try.underlying56 rfl sz36 rfl rfl) rfl) rfl rfl ?_
                    refine .cv (VOk.loadB (d := (.sref 1063)) rfl Try.underlying36 rfl rfl rfl rfl) rfl rfl ?_
                    refine .cv (VOk.to (d' := (.agg (e_api_Entry (T_api_Entry.mk ((T_api_Entry.mk 1 t34 ([] : Str) ([] : List T_api_Entry)).Kind) ((T_api_Entry.mk 1 t34 ([] : Str) ([] : List T_api_Entry)).URI) y7_2_36 ((T_api_Entry.mk 1 t34 ([] : Str) ([] : List T_api_Entry)).List_))))) (.loadBAgg rfl Try.underlying56 rfl sz56 rfl rfl rfl) (congrArg D.agg (e_api_Entry_c (T_api_Entry.mk ((T_api_Entry.mk 1 t34 ([] : Str) ([] : List T_api_Entry)).Kind) ((T_api_Entry.mk 1 t34 ([] : Str) ([] : List T_api_Entry)).URI) y7_2_36 ((T_api_Entry.mk 1 t34 ([] : Str) ([] : List T_api_Entry)).List_))).symm)) rfl rfl ?_
                    refine .cg (GOk.to (d' := (L 4 e_api_Entry ([(T_api_Entry.mk ((T_api_Entry.mk 1 t34 ([] : Str) ([] : List T_api_Entry)).Kind) ((T_api_Entry.mk 1 t34 ([] : Str) ([] : List T_api_Entry)).URI) y7_2_36 ((T_api_Entry.mk 1 t34 ([] : Str) ([] : List T_api_Entry)).List_))] : List T_api_Entry))) (GOk.lit rfl Try.underlying36 sz56 zs56 rfl rfl rfl rfl) rfl) rfl rfl ?_
                    refine OpsOk.cons rfl (OpOk.appendL (e := e_api_Entry) (xs := y1063_13) (ys := ([(T_api_Entry.mk ((T_api_Entry.mk 1 t34 ([] : Str) ([] : List T_api_Entry)).Kind) ((T_api_Entry.mk 1 t34 ([] : Str) ([] : List T_api_Entry)).URI) y7_2_36 ((T_api_Entry.mk 1 t34 ([] : Str) ([] : List T_api_Entry)).List_))] : List T_api_Entry)) rfl Try.underlying36 elt56 rfl rfl rfl c37 rfl) ?_
                    refine .cv (VOk.to (VOk.fieldB rfl Try.underlying56 rfl sz36 rfl rfl) rfl) rfl rfl ?_
                    refine OpsOk.cons rfl (OpOk.to (σ2 := St.put ⟨_, (3, (.box .ex [(.v (.int .i64 y3_0_10)), (S y3_1_11), (S y3_2_12), (.sref 1063)])) :: _⟩ _ .junk) (.storeB rfl sz36 rfl rfl rfl rfl rfl rfl) rfl) ?_
                    exact .done (.rf rfl rfl)
                  refine Ok.region (σ' := ⟨[(2, (.bref 2 0)), (3, (.bref 3 0)), (4, (L 6 e_api_Node t3)), (5, (.v (.int .i64 (IntKind.i64.wrap (x5_5 + 1)))))], [(2, (.box .ex [(.v (.int .i64 y2_0_6)), (S y2_1_7), (S y2_2_8), (L 4 e_api_Entry y2_3_9)])), (3, (.box .ex [(.v (.int .i64 y3_0_10)), (S y3_1_11), (S y3_2_12), (.sref 1063)])), (1063, (.rows true 56 4 ((y1063_13 ++ ([(T_api_Entry.mk ((T_api_Entry.mk 1 t34 ([] : Str) ([] : List T_api_Entry)).Kind) ((T_api_Entry.mk 1 t34 ([] : Str) ([] : List T_api_Entry)).URI) y7_2_36 ((T_api_Entry.mk 1 t34 ([] : Str) ([] : List T_api_Entry)).List_))] : List T_api_Entry)).map e_api_Entry)))]⟩) ?_ ?_
                  · refine .cv (VOk.mv (d := (.v (.int .i64 x5_5))) rfl rfl) rfl rfl ?_
                    refine .cv (VOk.arith (op := .add) (k := .i64) (a := x5_5) (b := 1) rfl rfl rfl rfl) rfl rfl ?_
                    refine .cv (VOk.asg (d := (.v (.int .i64 (IntKind.i64.wrap (x5_5 + 1))))) rfl rfl) rfl rfl ?_
                    exact .done (.rf rfl rfl)
                  exact ⟨m23, Nat.lt_succ_self m23, y2_0_6, y2_1_7, y2_2_8, y2_3_9, y3_0_10, y3_1_11, y3_2_12, (y1063_13 ++ ([(T_api_Entry.mk ((T_api_Entry.mk 1 t34 ([] : Str) ([] : List T_api_Entry)).Kind) ((T_api_Entry.mk 1 t34 ([] : Str) ([] : List T_api_Entry)).URI) y7_2_36 ((T_api_Entry.mk 1 t34 ([] : Str) ([] : List T_api_Entry)).List_))] : List T_api_Entry)), (IntKind.i64.wrap (x5_5 + 1)), rfl, H⟩
              · replace H := ifF H hb46
                refine Ok.skip ?_
                refine Ok.region (σ' := ⟨[(2, (.bref 2 0)), (3, (.bref 3 0)), (4, (L 6 e_api_Node t3)), (5, (.v (.int .i64 (IntKind.i64.wrap (x5_5 + 1)))))], [(2, (.box .ex [(.v (.int .i64 y2_0_6)), (S y2_1_7), (S y2_2_8), (L 4 e_api_Entry y2_3_9)])), (3, (.box .ex [(.v (.int .i64 y3_0_10)), (S y3_1_11), (S y3_2_12), (.sref 1063)])), (1063, (.rows true 56 4 (y1063_13.map e_api_Entry)))]⟩) ?_ ?_
                · refine .cv (VOk.mv (d := (.v (.int .i64 x5_5))) rfl rfl) rfl rfl ?_
                  refine .cv (VOk.arith (op := .add) (k := .i64) (a := x5_5) (b := 1) rfl rfl rfl rfl) rfl rfl ?_
                  refine .cv (VOk.asg (d := (.v (.int .i64 (IntKind.i64.wrap (x5_5 + 1))))) rfl rfl) rfl rfl ?_
                  exact .done (.rf rfl rfl)
                exact ⟨m23, Nat.lt_succ_self m23, y2_0_6, y2_1_7, y2_2_8, y2_3_9, y3_0_10, y3_1_11, y3_2_12, y1063_13, (IntKind.i64.wrap (x5_5 + 1)), rfl, H⟩
      · replace H := ifF H hb50
        refine Ok.exit ?_
        refine Ok.seq ?_
        refine Ok.region (σ' := ⟨[(2, (.bref 2 0))], [(2, (.box .ex (c_api_Entry (T_api_Entry.mk y3_0_10 y3_1_11 y3_2_12 y1063_13))))]⟩) ?_ ?_
        · refine OpsOk.frzL 1063 (e := e_api_Entry) (xs := y1063_13) rfl ?_
          refine .cv (VOk.to (d' := (.agg (e_api_Entry (T_api_Entry.mk y3_0_10 y3_1_11 y3_2_12 y1063_13)))) (.loadBAgg rfl Try.underlying56 rfl sz56 rfl rfl rfl) (congrArg D.agg (e_api_Entry_c (T_api_Entry.mk y3_0_10 y3_1_11 y3_2_12 y1063_13)).symm)) rfl rfl ?_
          refine OpsOk.cut1 78 (.agg [(.v (.int .i64 ((T_api_Entry.mk y3_0_10 y3_1_11 y3_2_12 y1063_13).Kind))), (S ((T_api_Entry.mk y3_0_10 y3_1_11 y3_2_12 y1063_13).URI)), (S ((T_api_Entry.mk y3_0_10 y3_1_11 y3_2_12 y1063_13).Name)), (L 4 e_api_Entry ((T_api_Entry.mk y3_0_10 y3_1_11 y3_2_12 y1063_13).List_))]) (DLe.of_eq (congrArg D.agg (e_api_Entry_c _).symm)) ?_
          refine OpsOk.cons rfl (OpOk.to (σ2 := St.put ⟨_, (2, (.box .ex (c_api_Entry (T_api_Entry.mk y3_0_10 y3_1_11 y3_2_12 y1063_13)))) :: _⟩ _ .junk) (.storeB rfl sz56 rfl rfl rfl rfl rfl rfl) rfl) ?_
          exact .done (.rf rfl rfl)
        refine Ok.ret ?_
        obtain rfl := Option.some.inj H
        exact ⟨.inl rfl, ⟨_, (.cons (.cell (VOk.to (d' := (.agg (e_api_Entry (T_api_Entry.mk y3_0_10 y3_1_11 y3_2_12 y1063_13)))) (.loadBAgg rfl Try.underlying56 rfl sz56 rfl rfl rfl) (congrArg D.agg (e_api_Entry_c (T_api_Entry.mk y3_0_10 y3_1_11 y3_2_12 y1063_13)).symm))) .nil), rfl⟩, trivial⟩

/-! watchbill/watchbillref17.told: function 32 -/
def watchbillref17_told.l0 (k : Nat) (t9 : (List T_api_Node)) : Nat → Str → List T_api_Entry → Bool → Str → List Str → Str → List T_api_Entry → Bool → Str → List Str → Int → Option T_api_Service
  | 0, _, _, _, _, _, _, _, _, _, _, _ => none
  | m33 + 1, y2_0_12, y2_1_13, y2_2_14, y2_3_15, y2_4_16, y4_0_17, y4_1_18, y4_2_19, y4_3_20, y1084_21, x6_11 => (if (decide (x6_11 < (t9.length : Int))) = true then (if (0 : Int) ≤ x6_11 ∧ x6_11 < (t9.length : Int) then ((watchbillref17_text k (rd t9 x6_11)).bind fun (t35 : Str) => (if (y1084_21.length + ([t35] : List Str).length) * 16 ≤ 140737488355328 then watchbillref17_told.l0 k t9 m33 y2_0_12 y2_1_13 y2_2_14 y2_3_15 y2_4_16 y4_0_17 y4_1_18 y4_2_19 y4_3_20 (y1084_21 ++ ([t35] : List Str)) (IntKind.i64.wrap (x6_11 + 1)) else none)) else none) else some (T_api_Service.mk y4_0_17 y4_1_18 y4_2_19 y4_3_20 y1084_21))
def watchbillref17_told.j1 (k : Nat) (t1 : (List T_api_Node)) (t3 : Str) (y4_1_5 : List T_api_Entry) (y4_2_6 : Bool) (y4_3_7 : Str) : Option T_api_Service := (if ((t1.length : Int) == 2) = true then (if (0 : Int) ≤ 1 ∧ 1 < (t1.length : Int) then ((watchbillref16_Kids k (rd t1 1) ([117, 114, 110, 58, 105, 101, 116, 102, 58, 112, 97, 114, 97, 109, 115, 58, 120, 109, 108, 58, 110, 115, 58, 114, 108, 115, 45, 115, 101, 114, 118, 105, 99, 101, 115] : Str)).bind fun (t9 : (List T_api_Node)) => watchbillref17_told.l0 k t9 k ([] : Str) ([] : List T_api_Entry) false ([] : Str) ([] : List Str) t3 y4_1_5 y4_2_6 y4_3_7 ([] : List Str) 0) else none) else some (T_api_Service.mk t3 y4_1_5 y4_2_6 y4_3_7 ([] : List Str)))
def watchbillref17_told (k : Nat) (a0 : T_api_Node) : Option T_api_Service := ((watchbillref17_parts k a0).bind fun (t1 : (List T_api_Node)) => ((watchbillref16_Attr k a0 ([117, 114, 105] : Str)).bind fun (t3 : Str) => (if (0 : Int) ≤ 0 ∧ 0 < (t1.length : Int) then (if ((((rd t1 0).Name).Local) == ([108, 105, 115, 116] : Str)) = true then (if (0 : Int) ≤ 0 ∧ 0 < (t1.length : Int) then ((watchbillref16_Told k (rd t1 0)).bind fun (t42 : T_api_Entry) => watchbillref17_told.j1 k t1 t3 t42.List_ true ([] : Str)) else none) else (if (0 : Int) ≤ 0 ∧ 0 < (t1.length : Int) then ((watchbillref17_text k (rd t1 0)).bind fun (t45 : Str) => watchbillref17_told.j1 k t1 t3 ([] : List T_api_Entry) false t45) else none)) else none)))
theorem watchbillref17_told.ok {k : Nat} {a0 : T_api_Node} {r : T_api_Service} (H : watchbillref17_told k a0 = some r) : Vx.Fn Try.prog 32 [(.agg (e_api_Node a0))] [] (.agg (e_api_Service r)) [] := by
  unfold watchbillref17_told at H
  refine Vx.Fn.of_okR Try.func32 rfl (Nat.le_of_ble_eq_true rfl) ?_
  refine Ok.seq ?_
  refine Ok.region (σ' := ⟨[(1, (.bref 1 0)), (2, (.bref 2 0))], [(1, (.box .ex (c_api_Node a0))), (2, (.box .ex [(S ([] : Str)), (L 4 e_api_Entry ([] : List T_api_Entry)), (.v (.bool false)), (S ([] : Str)), (L 1 eS ([] : List Str))]))]⟩) ?_ ?_
  · refine OpsOk.cut1 0 (.agg [(.v (.int .i64 a0.Kind)), (S a0.Name.Space), (S a0.Name.Local), (L 3 e_api_Attr a0.Attrs), (L 6 e_api_Node a0.Kids), (S a0.Text)]) (DLe.of_eq (congrArg D.agg (e_api_Node_c _).symm)) ?_
    refine OpsOk.cons rfl (OpOk.box 1 (cells := [(.v (.int .i64 a0.Kind)), (S a0.Name.Space), (S a0.Name.Local), (L 3 e_api_Attr a0.Attrs), (L 6 e_api_Node a0.Kids), (S a0.Text)]) rfl rfl rfl rfl) ?_
    refine OpsOk.cons rfl (OpOk.alloc 2 [none, some 4, none, none, some 1] rfl zo39 rfl rfl) ?_
    exact .done (.rf rfl rfl)
  refine Ok.seq ?_
  obtain ⟨t1, h2, H⟩ := bindE H
  refine Ok.region (σ' := ⟨[(1, (.bref 1 0)), (2, (.bref 2 0)), (3, (L 6 e_api_Node t1))], [(1, (.box .ex (c_api_Node a0))), (2, (.box .ex [(S ([] : Str)), (L 4 e_api_Entry ([] : List T_api_Entry)), (.v (.bool false)), (S ([] : Str)), (L 1 eS ([] : List Str))]))]⟩) ?_ ?_
  · refine .cv (VOk.to (d' := (.agg (e_api_Node a0))) (.loadBAgg rfl Try.underlying27 rfl sz27 rfl rfl rfl) (congrArg D.agg (e_api_Node_c a0).symm)) rfl rfl ?_
    refine .cg (GOk.call rfl rfl cl54 rfl (watchbillref17_parts.ok h2) rfl) rfl rfl ?_
    refine .cv (VOk.asg (d := (L 6 e_api_Node t1)) rfl rfl) rfl rfl ?_
    exact .done (.rf rfl rfl)
  refine Ok.seq ?_
  obtain ⟨t3, h4, H⟩ := bindE H
  refine Ok.region (σ' := ⟨[(2, (.bref 2 0)), (3, (L 6 e_api_Node t1)), (4, (.bref 4 0))], [(2, (.box .ex [(S ([] : Str)), (L 4 e_api_Entry ([] : List T_api_Entry)), (.v (.bool false)), (S ([] : Str)), (L 1 eS ([] : List Str))])), (4, (.box .ex [(S t3), (L 4 e_api_Entry ([] : List T_api_Entry)), (.v (.bool false)), (S ([] : Str)), (.sref 1084)])), (1084, (.rows true 9 1 (([] : List Str).map eS)))]⟩) ?_ ?_
  · refine .cv (VOk.to (d' := (.agg (e_api_Node a0))) (.loadBAgg rfl Try.underlying27 rfl sz27 rfl rfl rfl) (congrArg D.agg (e_api_Node_c a0).symm)) rfl rfl ?_
    refine .cg (GOk.call rfl rfl cl55 rfl (watchbillref16_Attr.ok h4) rfl) rfl rfl ?_
    refine .cv (VOk.to (d' := (.agg [(S t3), (L 4 e_api_Entry ([] : List T_api_Entry)), (.v (.bool false)), (S ([] : Str)), (.v (.slice none 0 0))])) (.build [none, some 4, none, none, none] [(0, 1), (1, 1), (2, 1), (3, 1), (4, 1)] rfl Try.underlying39 (fa39 Try.underlying39) zo39 rfl rfl) rfl) rfl rfl ?_
    refine OpsOk.cons rfl (OpOk.alloc 4 [none, some 4, none, none, none] rfl zo39 rfl rfl) ?_
    refine OpsOk.sle (SLe.adopt 4 1084 4 9 1 rfl rfl rfl rfl rfl) ?_
    refine OpsOk.cons rfl (OpOk.to (σ2 := St.put ⟨_, (4, (.box .ex [(S t3), (L 4 e_api_Entry ([] : List T_api_Entry)), (.v (.bool false)), (S ([] : Str)), (.v (.slice none 0 0))])) :: _⟩ _ .junk) (.storeB rfl sz39 rfl rfl rfl rfl rfl rfl) rfl) ?_
    refine OpsOk.sle (SLe.adopt 4 1084 4 9 1 rfl rfl rfl rfl rfl) ?_
    exact .done (.rf rfl rfl)
  refine Ok.meet (fun σ => ∃ (y4_1_5 : List T_api_Entry) (y4_2_6 : Bool) (y4_3_7 : Str), σ = ⟨[(2, (.bref 2 0)), (3, (L 6 e_api_Node t1)), (4, (.bref 4 0))], [(2, (.box .ex [(S ([] : Str)), (L 4 e_api_Entry ([] : List T_api_Entry)), (.v (.bool false)), (S ([] : Str)), (L 1 eS ([] : List Str))])), (4, (.box .ex [(S t3), (L 4 e_api_Entry y4_1_5), (.v (.bool y4_2_6)), (S y4_3_7), (.sref 1084)])), (1084, (.rows true 9 1 (([] : List Str).map eS)))]⟩ ∧ watchbillref17_told.j1 k t1 t3 y4_1_5 y4_2_6 y4_3_7 = some r) ?_ ?_
  · refine Ok.seq ?_
    obtain ⟨c40, H⟩ := assertE H
    refine Ok.region (σ' := ⟨[(2, (.bref 2 0)), (3, (L 6 e_api_Node t1)), (4, (.bref 4 0)), (17, (.v (.bool ((((rd t1 0).Name).Local) == ([108, 105, 115, 116] : Str)))))], [(2, (.box .ex [(S ([] : Str)), (L 4 e_api_Entry ([] : List T_api_Entry)), (.v (.bool false)), (S ([] : Str)), (L 1 eS ([] : List Str))])), (4, (.box .ex [(S t3), (L 4 e_api_Entry ([] : List T_api_Entry)), (.v (.bool false)), (S ([] : Str)), (.sref 1084)])), (1084, (.rows true 9 1 (([] : List Str).map eS)))]⟩) ?_ ?_
    · refine .cv (VOk.mv (d := (L 6 e_api_Node t1)) rfl rfl) rfl rfl ?_
      refine .cv (VOk.indexL (sz := 6) (e := e_api_Node) (xs := t1) (i := 0) rfl Try.underlying25 sz27 rfl rfl c40) rfl rfl ?_
      refine .cv (VOk.to (VOk.fieldFp rfl Try.underlying27 rfl sz23 rfl) rfl) rfl rfl ?_
      refine .cv (VOk.to (VOk.fieldFp rfl Try.underlying23 rfl sz9 rfl) rfl) rfl rfl ?_
      refine .cv (VOk.loadFp (d := (S (((rd t1 0).Name).Local))) rfl Try.underlying9 rfl rfl rfl) rfl rfl ?_
      refine .cv (VOk.strOp (op := .eql) (a := ((rd t1 0).Name).Local) (b := ([108, 105, 115, 116] : Str)) rfl rfl rfl rfl) rfl rfl ?_
      exact .done (.rf rfl rfl)
    refine Ok.test (b := ((((rd t1 0).Name).Local) == ([108, 105, 115, 116] : Str))) rfl (fun hb47 => ?_) (fun hb47 => ?_)
    · replace H := ifT H hb47
      refine Ok.seq ?_
      refine Ok.region (σ' := ⟨[(2, (.bref 2 0)), (3, (L 6 e_api_Node t1)), (4, (.bref 4 0))], [(2, (.box .ex [(S ([] : Str)), (L 4 e_api_Entry ([] : List T_api_Entry)), (.v (.bool false)), (S ([] : Str)), (L 1 eS ([] : List Str))])), (4, (.box .ex [(S t3), (L 4 e_api_Entry ([] : List T_api_Entry)), (.v (.bool true)), (S ([] : Str)), (.sref 1084)])), (1084, (.rows true 9 1 (([] : List Str).map eS)))]⟩) ?_ ?_
      · refine .cv (VOk.to (VOk.fieldB rfl Try.underlying39 rfl sz4 rfl rfl) rfl) rfl rfl ?_
        refine OpsOk.cons rfl (OpOk.to (σ2 := St.put ⟨_, (4, (.box .ex [(S t3), (L 4 e_api_Entry ([] : List T_api_Entry)), (.v (.bool true)), (S ([] : Str)), (.sref 1084)])) :: _⟩ _ .junk) (.storeB rfl sz4 rfl rfl rfl rfl rfl rfl) rfl) ?_
        exact .done (.rf rfl rfl)
      obtain ⟨c41, H⟩ := assertE H
      obtain ⟨t42, h43, H⟩ := bindE H
      refine Ok.region (σ' := ⟨[(2, (.bref 2 0)), (3, (L 6 e_api_Node t1)), (4, (.bref 4 0))], [(2, (.box .ex [(S ([] : Str)), (L 4 e_api_Entry ([] : List T_api_Entry)), (.v (.bool false)), (S ([] : Str)), (L 1 eS ([] : List Str))])), (4, (.box .ex [(S t3), (L 4 e_api_Entry t42.List_), (.v (.bool true)), (S ([] : Str)), (.sref 1084)])), (1084, (.rows true 9 1 (([] : List Str).map eS)))]⟩) ?_ ?_
      · refine .cv (VOk.mv (d := (L 6 e_api_Node t1)) rfl rfl) rfl rfl ?_
        refine .cv (VOk.indexL (sz := 6) (e := e_api_Node) (xs := t1) (i := 0) rfl Try.underlying25 sz27 rfl rfl c41) rfl rfl ?_
        refine .cv (VOk.to (d' := (.agg (e_api_Node (rd t1 0)))) (.loadFpAgg rfl Try.underlying27 rfl sz27 rfl rfl) rfl) rfl rfl ?_
        refine .cg (GOk.call rfl rfl cl58 rfl (watchbillref16_Told.ok h43) rfl) rfl rfl ?_
        refine .cv (VOk.to (d' := (L 4 e_api_Entry t42.List_)) (VOk.field (d := (L 4 r_api_Entry t42.List_)) rfl Try.underlying56 rfl Try.underlying36 rfl rfl rfl) (by rw [r_api_Entry_eq])) rfl rfl ?_
        refine .cv (VOk.to (VOk.fieldB rfl Try.underlying39 rfl sz36 rfl rfl) rfl) rfl rfl ?_
        refine OpsOk.cons rfl (OpOk.to (σ2 := St.put ⟨_, (4, (.box .ex [(S t3), (L 4 e_api_Entry t42.List_), (.v (.bool true)), (S ([] : Str)), (.sref 1084)])) :: _⟩ _ .junk) (.storeB rfl sz36 rfl rfl rfl rfl rfl rfl) rfl) ?_
        exact .done (.rf rfl rfl)
      exact ⟨t42.List_, true, ([] : Str), rfl, H⟩
    · replace H := ifF H hb47
      obtain ⟨c44, H⟩ := assertE H
      obtain ⟨t45, h46, H⟩ := bindE H
      refine Ok.region (σ' := ⟨[(2, (.bref 2 0)), (3, (L 6 e_api_Node t1)), (4, (.bref 4 0))], [(2, (.box .ex [(S ([] : Str)), (L 4 e_api_Entry ([] : List T_api_Entry)), (.v (.bool false)), (S ([] : Str)), (L 1 eS ([] : List Str))])), (4, (.box .ex [(S t3), (L 4 e_api_Entry ([] : List T_api_Entry)), (.v (.bool false)), (S t45), (.sref 1084)])), (1084, (.rows true 9 1 (([] : List Str).map eS)))]⟩) ?_ ?_
      · refine .cv (VOk.mv (d := (L 6 e_api_Node t1)) rfl rfl) rfl rfl ?_
        refine .cv (VOk.indexL (sz := 6) (e := e_api_Node) (xs := t1) (i := 0) rfl Try.underlying25 sz27 rfl rfl c44) rfl rfl ?_
        refine .cv (VOk.to (d' := (.agg (e_api_Node (rd t1 0)))) (.loadFpAgg rfl Try.underlying27 rfl sz27 rfl rfl) rfl) rfl rfl ?_
        refine .cg (GOk.call rfl rfl cl59 rfl (watchbillref17_text.ok h46) rfl) rfl rfl ?_
        refine .cv (VOk.to (VOk.fieldB rfl Try.underlying39 rfl sz9 rfl rfl) rfl) rfl rfl ?_
        refine OpsOk.cons rfl (OpOk.to (σ2 := St.put ⟨_, (4, (.box .ex [(S t3), (L 4 e_api_Entry ([] : List T_api_Entry)), (.v (.bool false)), (S t45), (.sref 1084)])) :: _⟩ _ .junk) (.storeB rfl sz9 rfl rfl rfl rfl rfl rfl) rfl) ?_
        exact .done (.rf rfl rfl)
      exact ⟨([] : List T_api_Entry), false, t45, rfl, H⟩
  · rintro σ ⟨y4_1_5, y4_2_6, y4_3_7, rfl, H⟩
    unfold watchbillref17_told.j1 at H
    refine Ok.seq ?_
    refine Ok.seq ?_
    refine Ok.region (σ' := ⟨[(2, (.bref 2 0)), (3, (L 6 e_api_Node t1)), (4, (.bref 4 0)), (32, (.v (.bool ((t1.length : Int) == 2))))], [(2, (.box .ex [(S ([] : Str)), (L 4 e_api_Entry ([] : List T_api_Entry)), (.v (.bool false)), (S ([] : Str)), (L 1 eS ([] : List Str))])), (4, (.box .ex [(S t3), (L 4 e_api_Entry y4_1_5), (.v (.bool y4_2_6)), (S y4_3_7), (.sref 1084)])), (1084, (.rows true 9 1 (([] : List Str).map eS)))]⟩) ?_ ?_
    · refine .cv (VOk.mv (d := (L 6 e_api_Node t1)) rfl rfl) rfl rfl ?_
      refine .cv (VOk.lenL (e := e_api_Node) (xs := t1) rfl Try.underlying25 rfl) rfl rfl ?_
      refine .cv (VOk.arith (op := .eql) (k := .i64) (a := (t1.length : Int)) (b := 2) rfl rfl rfl rfl) rfl rfl ?_
      exact .done (.rf rfl rfl)
    refine Ok.test (b := ((t1.length : Int) == 2)) rfl (fun hb39 => ?_) (fun hb39 => ?_)
    · replace H := ifT H hb39
      refine Ok.seq ?_
      obtain ⟨c8, H⟩ := assertE H
      obtain ⟨t9, h10, H⟩ := bindE H
      refine Ok.region (σ' := ⟨[(2, (.bref 2 0)), (4, (.bref 4 0)), (5, (L 6 e_api_Node t9))], [(2, (.box .ex [(S ([] : Str)), (L 4 e_api_Entry ([] : List T_api_Entry)), (.v (.bool false)), (S ([] : Str)), (L 1 eS ([] : List Str))])), (4, (.box .ex [(S t3), (L 4 e_api_Entry y4_1_5), (.v (.bool y4_2_6)), (S y4_3_7), (.sref 1084)])), (1084, (.rows true 9 1 (([] : List Str).map eS)))]⟩) ?_ ?_
      · refine .cv (VOk.mv (d := (L 6 e_api_Node t1)) rfl rfl) rfl rfl ?_
        refine .cv (VOk.indexL (sz := 6) (e := e_api_Node) (xs := t1) (i := 1) rfl Try.underlying25 sz27 rfl rfl c8) rfl rfl ?_
        refine .cv (VOk.to (d' := (.agg (e_api_Node (rd t1 1)))) (.loadFpAgg rfl Try.underlying27 rfl sz27 rfl rfl) rfl) rfl rfl ?_
        refine .cg (GOk.call rfl rfl cl30 rfl (watchbillref16_Kids.ok h10) rfl) rfl rfl ?_
        refine .cv (VOk.asg (d := (L 6 e_api_Node t9)) rfl rfl) rfl rfl ?_
        exact .done (.rf rfl rfl)
      refine Ok.seq ?_
      refine Ok.region (σ' := ⟨[(2, (.bref 2 0)), (4, (.bref 4 0)), (5, (L 6 e_api_Node t9)), (6, (.v (.int .i64 0)))], [(2, (.box .ex [(S ([] : Str)), (L 4 e_api_Entry ([] : List T_api_Entry)), (.v (.bool false)), (S ([] : Str)), (L 1 eS ([] : List Str))])), (4, (.box .ex [(S t3), (L 4 e_api_Entry y4_1_5), (.v (.bool y4_2_6)), (S y4_3_7), (.sref 1084)])), (1084, (.rows true 9 1 (([] : List Str).map eS)))]⟩) ?_ ?_
      · refine .cv (VOk.asg (d := (.v (.int .i64 0))) rfl rfl) rfl rfl ?_
        exact .done (.rf rfl rfl)
      refine Ok.block ?_
      refine Ok.le (σ' := ⟨[(2, (.bref 2 0)), (4, (.bref 4 0)), (5, (L 6 e_api_Node t9)), (6, (.v (.int .i64 0)))], [(2, (.box .ex [(S ([] : Str)), (L 4 e_api_Entry ([] : List T_api_Entry)), (.v (.bool false)), (S ([] : Str)), (L 1 eS ([] : List Str))])), (4, (.box .ex [(S t3), (L 4 e_api_Entry y4_1_5), (.v (.bool y4_2_6)), (S y4_3_7), (.sref 1084)])), (1084, (.rows true 9 1 (([] : List Str).map eS)))]⟩) (.rf rfl rfl) ?_
      refine Ok.loop (fun m33 σ => ∃ (y2_0_12 : Str) (y2_1_13 : List T_api_Entry) (y2_2_14 : Bool) (y2_3_15 : Str) (y2_4_16 : List Str) (y4_0_17 : Str) (y4_1_18 : List T_api_Entry) (y4_2_19 : Bool) (y4_3_20 : Str) (y1084_21 : List Str) (x6_11 : Int), σ = ⟨[(2, (.bref 2 0)), (4, (.bref 4 0)), (5, (L 6 e_api_Node t9)), (6, (.v (.int .i64 x6_11)))], [(2, (.box .ex [(S y2_0_12), (L 4 e_api_Entry y2_1_13), (.v (.bool y2_2_14)), (S y2_3_15), (L 1 eS y2_4_16)])), (4, (.box .ex [(S y4_0_17), (L 4 e_api_Entry y4_1_18), (.v (.bool y4_2_19)), (S y4_3_20), (.sref 1084)])), (1084, (.rows true 9 1 (y1084_21.map eS)))]⟩ ∧ watchbillref17_told.l0 k t9 m33 y2_0_12 y2_1_13 y2_2_14 y2_3_15 y2_4_16 y4_0_17 y4_1_18 y4_2_19 y4_3_20 y1084_21 x6_11 = some r) k ⟨([] : Str), ([] : List T_api_Entry), false, ([] : Str), ([] : List Str), t3, y4_1_5, y4_2_6, y4_3_7, ([] : List Str), 0, rfl, H⟩ ?_
      rintro m33 σ ⟨y2_0_12, y2_1_13, y2_2_14, y2_3_15, y2_4_16, y4_0_17, y4_1_18, y4_2_19, y4_3_20, y1084_21, x6_11, rfl, H⟩
      cases m33 with
      | zero => exact absurd H (by simp [watchbillref17_told.l0])
      | succ m33 =>
        unfold watchbillref17_told.l0 at H
        refine Ok.seq ?_
        refine Ok.seq ?_
        refine Ok.region (σ' := ⟨[(2, (.bref 2 0)), (4, (.bref 4 0)), (5, (L 6 e_api_Node t9)), (6, (.v (.int .i64 x6_11))), (40, (.v (.bool (decide (x6_11 < (t9.length : Int))))))], [(2, (.box .ex [(S y2_0_12), (L 4 e_api_Entry y2_1_13), (.v (.bool y2_2_14)), (S y2_3_15), (L 1 eS y2_4_16)])), (4, (.box .ex [(S y4_0_17), (L 4 e_api_Entry y4_1_18), (.v (.bool y4_2_19)), (S y4_3_20), (.sref 1084)])), (1084, (.rows true 9 1 (y1084_21.map eS)))]⟩) ?_ ?_
        · refine .cv (VOk.mv (d := (.v (.int .i64 x6_11))) rfl rfl) rfl rfl ?_
          refine .cv (VOk.mv (d := (L 6 e_api_Node t9)) rfl rfl) rfl rfl ?_
          refine .cv (VOk.lenL (e := e_api_Node) (xs := t9) rfl Try.underlying25 rfl) rfl rfl ?_
          refine .cv (VOk.arith (op := .lss) (k := .i64) (a := x6_11) (b := (t9.length : Int)) rfl rfl rfl rfl) rfl rfl ?_
          exact .done (.rf rfl rfl)
        refine Ok.test (b := (decide (x6_11 < (t9.length : Int)))) rfl (fun hb38 => ?_) (fun hb38 => ?_)
        · replace H := ifT H hb38
          refine Ok.skip ?_
          refine Ok.seq ?_
          refine Ok.block ?_
          obtain ⟨c34, H⟩ := assertE H
          obtain ⟨t35, h36, H⟩ := bindE H
          obtain ⟨c37, H⟩ := assertE H
          refine Ok.le (σ' := ⟨[(2, (.bref 2 0)), (4, (.bref 4 0)), (5, (L 6 e_api_Node t9)), (6, (.v (.int .i64 x6_11)))], [(2, (.box .ex [(S y2_0_12), (L 4 e_api_Entry y2_1_13), (.v (.bool y2_2_14)), (S y2_3_15), (L 1 eS y2_4_16)])), (4, (.box .ex [(S y4_0_17), (L 4 e_api_Entry y4_1_18), (.v (.bool y4_2_19)), (S y4_3_20), (.sref 1084)])), (1084, (.rows true 9 1 (y1084_21.map eS)))]⟩) (.rf rfl rfl) ?_
          refine Ok.drawE2 (σ' := ⟨[(2, (.bref 2 0)), (4, (.bref 4 0)), (5, (L 6 e_api_Node t9)), (6, (.v (.int .i64 x6_11)))], [(2, (.box .ex [(S y2_0_12), (L 4 e_api_Entry y2_1_13), (.v (.bool y2_2_14)), (S y2_3_15), (L 1 eS y2_4_16)])), (4, (.box .ex [(S y4_0_17), (L 4 e_api_Entry y4_1_18), (.v (.bool y4_2_19)), (S y4_3_20), (.sref 1084)])), (1084, (.rows true 9 1 ((y1084_21 ++ ([t35] : List Str)).map eS)))]⟩) [⟨true, [(4, (.bref 4 0))], [(4, (.box .ex [(S y4_0_17), (L 4 e_api_Entry y4_1_18), (.v (.bool y4_2_19)), (S y4_3_20), (.sref 1084)]))], (.bref 4 4), [], false, []⟩, ⟨true, [(43, (.bref 4 4))], [(4, (.box .ex [(S y4_0_17), (L 4 e_api_Entry y4_1_18), (.v (.bool y4_2_19)), (S y4_3_20), (.sref 1084)]))], (.sref 1084), [], false, []⟩, ⟨true, [(5, (L 6 e_api_Node t9))], [], (L 6 e_api_Node t9), [], false, []⟩, ⟨true, [(6, (.v (.int .i64 x6_11)))], [], (.v (.int .i64 x6_11)), [], false, []⟩, ⟨true, [(45, (L 6 e_api_Node t9)), (46, (.v (.int .i64 x6_11)))], [], (.fp (e_api_Node (rd t9 x6_11)) 0), [], false, []⟩, ⟨true, [(47, (.fp (e_api_Node (rd t9 x6_11)) 0))], [], (.agg (e_api_Node (rd t9 x6_11))), [], false, []⟩, ⟨true, [(48, (.agg (e_api_Node (rd t9 x6_11))))], [], (S t35), [], false, []⟩, ⟨true, [(49, (S t35))], [], (L 1 eS ([t35] : List Str)), [], false, []⟩, ⟨true, [(44, (.sref 1084)), (50, (L 1 eS ([t35] : List Str)))], [(1084, (.rows true 9 1 (y1084_21.map eS)))], (.sref 51), [(51, (.rows true 9 1 ((y1084_21 ++ ([t35] : List Str)).map eS))), (1084, .none)], true, []⟩, ⟨true, [(4, (.bref 4 0))], [(4, (.box .ex [(S y4_0_17), (L 4 e_api_Entry y4_1_18), (.v (.bool y4_2_19)), (S y4_3_20), (.sref 1084)]))], (.bref 4 4), [], false, []⟩, ⟨true, [(52, (.bref 4 4)), (51, (.sref 51))], [(4, (.box .ex [(S y4_0_17), (L 4 e_api_Entry y4_1_18), (.v (.bool y4_2_19)), (S y4_3_20), (.sref 1084)])), (51, (.rows true 9 1 ((y1084_21 ++ ([t35] : List Str)).map eS)))], .junk, [(4, (.box .ex [(S y4_0_17), (L 4 e_api_Entry y4_1_18), (.v (.bool y4_2_19)), (S y4_3_20), (.sref 51)]))], false, []⟩] [[], [0], [], [], [2, 3], [4], [5], [6], [1, 7], [], [0, 1, 8, 9]] mixed (by kernel_rfl) ?_ ?_
          · refine TxtE2.cons ⟨.same _, trivial⟩ ⟨rfl, trivial⟩ (It2.val rfl rfl (fun T hT => (VOk.g (VOk.to (VOk.fieldB rfl Try.underlying39 rfl sz37 rfl hT.1) rfl)))) ?_
            refine TxtE2.cons ⟨.same _, trivial⟩ ⟨rfl, trivial⟩ (It2.val rfl rfl (fun T hT => (VOk.g (VOk.loadB (d := (.sref 1084)) rfl Try.underlying37 rfl rfl hT.1 rfl)))) ?_
            refine TxtE2.cons ⟨.same _, trivial⟩ trivial (It2.val rfl rfl (fun T hT => (VOk.g (VOk.mv (d := (L 6 e_api_Node t9)) rfl rfl)))) ?_
            refine TxtE2.cons ⟨.same _, trivial⟩ trivial (It2.val rfl rfl (fun T hT => (VOk.g (VOk.mv (d := (.v (.int .i64 x6_11))) rfl rfl)))) ?_
            refine TxtE2.cons ⟨.same _, .same _, trivial⟩ trivial (It2.val rfl rfl (fun T hT => (VOk.g (VOk.indexL (sz := 6) (e := e_api_Node) (xs := t9) (i := x6_11) rfl Try.underlying25 sz27 rfl rfl c34)))) ?_
            refine TxtE2.cons ⟨.same _, trivial⟩ trivial (It2.val rfl rfl (fun T hT => (VOk.g (VOk.to (d' := (.agg (e_api_Node (rd t9 x6_11)))) (.loadFpAgg rfl Try.underlying27 rfl sz27 rfl rfl) rfl)))) ?_
            refine TxtE2.cons ⟨.same _, trivial⟩ trivial (It2.val rfl rfl (fun T hT => (GOk.call rfl rfl cl59 rfl (watchbillref17_text.ok h36) rfl))) ?_
            refine TxtE2.cons ⟨.same _, trivial⟩ trivial (It2.val rfl rfl (fun T hT => (GOk.to (d' := (L 1 eS ([t35] : List Str))) (GOk.lit rfl Try.underlying37 sz9 zs9 rfl rfl rfl rfl) rfl))) ?_
            refine TxtE2.cons ⟨.same _, .same _, trivial⟩ ⟨rfl, trivial⟩ (It2.appendL 51 (e := eS) (xs := y1084_21) (ys := ([t35] : List Str)) rfl rfl Try.underlying37 elt9 rfl rfl rfl rfl c37 rfl rfl) ?_
            refine TxtE2.cons ⟨.same _, trivial⟩ ⟨rfl, trivial⟩ (It2.val rfl rfl (fun T hT => (VOk.g (VOk.to (VOk.fieldB rfl Try.underlying39 rfl sz37 rfl hT.1) rfl)))) ?_
            refine TxtE2.cons ⟨.same _, .same _, trivial⟩ ⟨rfl, rfl, trivial⟩ (It2.store rfl rfl sz37 rfl rfl rfl rfl rfl rfl rfl rfl) ?_
            exact .doneS (SLe.trans (Le.s (.rf rfl rfl)) (SLe.ren 51 1084 rfl rfl))
          refine Ok.region (σ' := ⟨[(2, (.bref 2 0)), (4, (.bref 4 0)), (5, (L 6 e_api_Node t9)), (6, (.v (.int .i64 (IntKind.i64.wrap (x6_11 + 1)))))], [(2, (.box .ex [(S y2_0_12), (L 4 e_api_Entry y2_1_13), (.v (.bool y2_2_14)), (S y2_3_15), (L 1 eS y2_4_16)])), (4, (.box .ex [(S y4_0_17), (L 4 e_api_Entry y4_1_18), (.v (.bool y4_2_19)), (S y4_3_20), (.sref 1084)])), (1084, (.rows true 9 1 ((y1084_21 ++ ([t35] : List Str)).map eS)))]⟩) ?_ ?_
          · refine .cv (VOk.mv (d := (.v (.int .i64 x6_11))) rfl rfl) rfl rfl ?_
            refine .cv (VOk.arith (op := .add) (k := .i64) (a := x6_11) (b := 1) rfl rfl rfl rfl) rfl rfl ?_
            refine .cv (VOk.asg (d := (.v (.int .i64 (IntKind.i64.wrap (x6_11 + 1))))) rfl rfl) rfl rfl ?_
            exact .done (.rf rfl rfl)
          exact ⟨m33, Nat.lt_succ_self m33, y2_0_12, y2_1_13, y2_2_14, y2_3_15, y2_4_16, y4_0_17, y4_1_18, y4_2_19, y4_3_20, (y1084_21 ++ ([t35] : List Str)), (IntKind.i64.wrap (x6_11 + 1)), rfl, H⟩
        · replace H := ifF H hb38
          refine Ok.exit ?_
          refine Ok.seq ?_
          refine Ok.region (σ' := ⟨[(2, (.bref 2 0))], [(2, (.box .ex (c_api_Service (T_api_Service.mk y4_0_17 y4_1_18 y4_2_19 y4_3_20 y1084_21))))]⟩) ?_ ?_
          · refine OpsOk.frzL 1084 (e := eS) (xs := y1084_21) rfl ?_
            refine .cv (VOk.to (d' := (.agg (e_api_Service (T_api_Service.mk y4_0_17 y4_1_18 y4_2_19 y4_3_20 y1084_21)))) (.loadBAgg rfl Try.underlying39 rfl sz39 rfl rfl rfl) rfl) rfl rfl ?_
            refine OpsOk.cons rfl (OpOk.to (σ2 := St.put ⟨_, (2, (.box .ex (c_api_Service (T_api_Service.mk y4_0_17 y4_1_18 y4_2_19 y4_3_20 y1084_21)))) :: _⟩ _ .junk) (.storeB rfl sz39 rfl rfl rfl rfl rfl rfl) rfl) ?_
            exact .done (.rf rfl rfl)
          refine Ok.ret ?_
          obtain rfl := Option.some.inj H
          exact ⟨.inl rfl, ⟨_, (.cons (.cell (VOk.to (d' := (.agg (e_api_Service (T_api_Service.mk y4_0_17 y4_1_18 y4_2_19 y4_3_20 y1084_21)))) (.loadBAgg rfl Try.underlying39 rfl sz39 rfl rfl rfl) rfl)) .nil), rfl⟩, trivial⟩
    · replace H := ifF H hb39
      refine Ok.skip ?_
      refine Ok.seq ?_
      refine Ok.region (σ' := ⟨[(2, (.bref 2 0))], [(2, (.box .ex (c_api_Service (T_api_Service.mk t3 y4_1_5 y4_2_6 y4_3_7 ([] : List Str)))))]⟩) ?_ ?_
      · refine OpsOk.frzL 1084 (e := eS) (xs := ([] : List Str)) rfl ?_
        refine .cv (VOk.to (d' := (.agg (e_api_Service (T_api_Service.mk t3 y4_1_5 y4_2_6 y4_3_7 ([] : List Str))))) (.loadBAgg rfl Try.underlying39 rfl sz39 rfl rfl rfl) rfl) rfl rfl ?_
        refine OpsOk.cons rfl (OpOk.to (σ2 := St.put ⟨_, (2, (.box .ex (c_api_Service (T_api_Service.mk t3 y4_1_5 y4_2_6 y4_3_7 ([] : List Str))))) :: _⟩ _ .junk) (.storeB rfl sz39 rfl rfl rfl rfl rfl rfl) rfl) ?_
        exact .done (.rf rfl rfl)
      refine Ok.ret ?_
      obtain rfl := Option.some.inj H
      exact ⟨.inl rfl, ⟨_, (.cons (.cell (VOk.to (d' := (.agg (e_api_Service (T_api_Service.mk t3 y4_1_5 y4_2_6 y4_3_7 ([] : List Str))))) (.loadBAgg rfl Try.underlying39 rfl sz39 rfl rfl rfl) rfl)) .nil), rfl⟩, trivial⟩

/-! watchbill/watchbillref16.Unique: function 60 -/
def watchbillref16_Unique.l1 (k : Nat) (c0 : Int → Option Bool) (a0 : List T_api_Entry) (x3_1 : Int) : Nat → Int → Option Bool
  | 0, _ => none
  | m9 + 1, x4_7 => (if (decide (x4_7 < x3_1)) = true then (if (0 : Int) ≤ x3_1 ∧ x3_1 < (a0.length : Int) then (if (0 : Int) ≤ x4_7 ∧ x4_7 < (a0.length : Int) then (if (((rd a0 x3_1).Kind) != ((rd a0 x4_7).Kind)) = true then watchbillref16_Unique.l1 k c0 a0 x3_1 m9 (IntKind.i64.wrap (x4_7 + 1)) else (if (0 : Int) ≤ x3_1 ∧ x3_1 < (a0.length : Int) then (if (((((rd a0 x3_1).Kind) == 2) == true) = true → (0 : Int) ≤ x3_1 ∧ x3_1 < (a0.length : Int)) then (if (((((rd a0 x3_1).Kind) == 2) == true) = true → (0 : Int) ≤ x4_7 ∧ x4_7 < (a0.length : Int)) then (if ((((((rd a0 x3_1).Kind) == 2) && (((rd a0 x3_1).Name) == ((rd a0 x4_7).Name))) == false) = true → (0 : Int) ≤ x3_1 ∧ x3_1 < (a0.length : Int)) then (if (((((((rd a0 x3_1).Kind) == 2) && (((rd a0 x3_1).Name) == ((rd a0 x4_7).Name))) == false) && ((((rd a0 x3_1).Kind) != 2) == true)) = true → (0 : Int) ≤ x3_1 ∧ x3_1 < (a0.length : Int)) then (if (((((((rd a0 x3_1).Kind) == 2) && (((rd a0 x3_1).Name) == ((rd a0 x4_7).Name))) == false) && ((((rd a0 x3_1).Kind) != 2) == true)) = true → (0 : Int) ≤ x4_7 ∧ x4_7 < (a0.length : Int)) then (if (((((rd a0 x3_1).Kind) == 2) && (((rd a0 x3_1).Name) == ((rd a0 x4_7).Name))) || ((((rd a0 x3_1).Kind) != 2) && (((rd a0 x3_1).URI) == ((rd a0 x4_7).URI)))) = true then some false else watchbillref16_Unique.l1 k c0 a0 x3_1 m9 (IntKind.i64.wrap (x4_7 + 1))) else none) else none) else none) else none) else none) else none)) else none) else none) else c0 (IntKind.i64.wrap (x3_1 + 1)))
def watchbillref16_Unique.l0 (k : Nat) (self : List T_api_Entry → Option Bool) (a0 : List T_api_Entry) : Nat → Int → Option Bool
  | 0, _ => none
  | m3 + 1, x3_1 => (if (decide (x3_1 < (a0.length : Int))) = true then (if (0 : Int) ≤ x3_1 ∧ x3_1 < (a0.length : Int) then ((self ((rd a0 x3_1).List_)).bind fun (t5 : Bool) => (if (!t5) = true then some false else watchbillref16_Unique.l1 k (watchbillref16_Unique.l0 k self a0 m3) a0 x3_1 k 0)) else none) else some true)
def watchbillref16_Unique : Nat → List T_api_Entry → Option Bool
  | 0, _ => none
  | k + 1, a0 => watchbillref16_Unique.l0 k (watchbillref16_Unique k) a0 k 0
theorem watchbillref16_Unique.ok {k : Nat} {a0 : List T_api_Entry} {r : Bool} (H : watchbillref16_Unique k a0 = some r) : Vx.Fn Try.prog 60 [(L 4 e_api_Entry a0)] [] (.v (.bool r)) [] := by
  induction k generalizing a0 r with
  | zero => exact absurd H (by simp [watchbillref16_Unique])
  | succ k ih =>
    unfold watchbillref16_Unique at H
    refine Vx.Fn.of_okR Try.func60 rfl (Nat.le_of_ble_eq_true rfl) ?_
    refine Ok.seq ?_
    refine Ok.region (σ' := ⟨[(0, (L 4 e_api_Entry a0))], []⟩) ?_ ?_
    · refine .cv (VOk.asg (d := (.v (.bool false))) rfl rfl) rfl rfl ?_
      exact .done (.rf rfl rfl)
    refine Ok.seq ?_
    refine Ok.seq ?_
    refine Ok.region (σ' := ⟨[(0, (L 4 e_api_Entry a0)), (3, (.v (.int .i64 0)))], []⟩) ?_ ?_
    · refine .cv (VOk.asg (d := (.v (.int .i64 0))) rfl rfl) rfl rfl ?_
      exact .done (.rf rfl rfl)
    refine Ok.block ?_
    refine Ok.le (σ' := ⟨[(0, (L 4 e_api_Entry a0)), (3, (.v (.int .i64 0)))], []⟩) (.rf rfl rfl) ?_
    refine Ok.loop (fun m3 σ => ∃ (x3_1 : Int), σ = ⟨[(0, (L 4 e_api_Entry a0)), (3, (.v (.int .i64 x3_1)))], []⟩ ∧ watchbillref16_Unique.l0 k (watchbillref16_Unique k) a0 m3 x3_1 = some r) k ⟨0, rfl, H⟩ ?_
    rintro m3 σ ⟨x3_1, rfl, H⟩
    cases m3 with
    | zero => exact absurd H (by simp [watchbillref16_Unique.l0])
    | succ m3 =>
      unfold watchbillref16_Unique.l0 at H
      refine Ok.seq ?_
      refine Ok.seq ?_
      refine Ok.region (σ' := ⟨[(0, (L 4 e_api_Entry a0)), (3, (.v (.int .i64 x3_1))), (8, (.v (.bool (decide (x3_1 < (a0.length : Int))))))], []⟩) ?_ ?_
      · refine .cv (VOk.mv (d := (.v (.int .i64 x3_1))) rfl rfl) rfl rfl ?_
        refine .cv (VOk.mv (d := (L 4 e_api_Entry a0)) rfl rfl) rfl rfl ?_
        refine .cv (VOk.lenL (e := e_api_Entry) (xs := a0) rfl Try.underlying36 rfl) rfl rfl ?_
        refine .cv (VOk.arith (op := .lss) (k := .i64) (a := x3_1) (b := (a0.length : Int)) rfl rfl rfl rfl) rfl rfl ?_
        exact .done (.rf rfl rfl)
      refine Ok.test (b := (decide (x3_1 < (a0.length : Int)))) rfl (fun hb28 => ?_) (fun hb28 => ?_)
      · replace H := ifT H hb28
        refine Ok.skip ?_
        refine Ok.seq ?_
        refine Ok.block ?_
        refine Ok.seq ?_
        refine Ok.seq ?_
        obtain ⟨c4, H⟩ := assertE H
        obtain ⟨t5, h6, H⟩ := bindE H
        refine Ok.region (σ' := ⟨[(0, (L 4 e_api_Entry a0)), (3, (.v (.int .i64 x3_1))), (17, (.v (.bool (!t5))))], []⟩) ?_ ?_
        · refine .cv (VOk.mv (d := (L 4 e_api_Entry a0)) rfl rfl) rfl rfl ?_
          refine .cv (VOk.mv (d := (.v (.int .i64 x3_1))) rfl rfl) rfl rfl ?_
          refine .cv (VOk.indexL (sz := 4) (e := e_api_Entry) (xs := a0) (i := x3_1) rfl Try.underlying36 sz56 rfl rfl c4) rfl rfl ?_
          refine .cv (VOk.to (VOk.fieldFp rfl Try.underlying56 rfl sz36 rfl) rfl) rfl rfl ?_
          refine .cv (VOk.to (d' := (L 4 e_api_Entry ((rd a0 x3_1).List_))) (VOk.loadFp (d := (L 4 r_api_Entry ((rd a0 x3_1).List_))) rfl Try.underlying36 rfl rfl rfl) (by rw [r_api_Entry_eq])) rfl rfl ?_
          refine .cg (GOk.call rfl rfl cl60 rfl (@ih _ _ h6) rfl) rfl rfl ?_
          refine .cv (VOk.not (b := t5) rfl rfl) rfl rfl ?_
          exact .done (.rf rfl rfl)
        refine Ok.test (b := (!t5)) rfl (fun hb27 => ?_) (fun hb27 => ?_)
        · replace H := ifT H hb27
          refine Ok.seq ?_
          refine Ok.region (σ' := ⟨[(2, (.v (.bool false)))], []⟩) ?_ ?_
          · refine .cv (VOk.asg (d := (.v (.bool false))) rfl rfl) rfl rfl ?_
            exact .done (.rf rfl rfl)
          refine Ok.ret ?_
          obtain rfl := Option.some.inj H
          exact ⟨.inl rfl, ⟨_, (.cons (.tmp rfl) .nil), rfl⟩, trivial⟩
        · replace H := ifF H hb27
          refine Ok.skip ?_
          refine Ok.seq ?_
          refine Ok.region (σ' := ⟨[(0, (L 4 e_api_Entry a0)), (3, (.v (.int .i64 x3_1))), (4, (.v (.int .i64 0)))], []⟩) ?_ ?_
          · refine .cv (VOk.asg (d := (.v (.int .i64 0))) rfl rfl) rfl rfl ?_
            exact .done (.rf rfl rfl)
          refine Ok.block ?_
          refine Ok.le (σ' := ⟨[(0, (L 4 e_api_Entry a0)), (3, (.v (.int .i64 x3_1))), (4, (.v (.int .i64 0)))], []⟩) (.rf rfl rfl) ?_
          refine Ok.loop (fun m9 σ => ∃ (x4_7 : Int), σ = ⟨[(0, (L 4 e_api_Entry a0)), (3, (.v (.int .i64 x3_1))), (4, (.v (.int .i64 x4_7)))], []⟩ ∧ watchbillref16_Unique.l1 k (watchbillref16_Unique.l0 k (watchbillref16_Unique k) a0 m3) a0 x3_1 m9 x4_7 = some r) k ⟨0, rfl, H⟩ ?_
          rintro m9 σ ⟨x4_7, rfl, H⟩
          cases m9 with
          | zero => exact absurd H (by simp [watchbillref16_Unique.l1])
          | succ m9 =>
            unfold watchbillref16_Unique.l1 at H
            refine Ok.seq ?_
            refine Ok.seq ?_
            refine Ok.region (σ' := ⟨[(0, (L 4 e_api_Entry a0)), (3, (.v (.int .i64 x3_1))), (4, (.v (.int .i64 x4_7))), (20, (.v (.bool (decide (x4_7 < x3_1)))))], []⟩) ?_ ?_
            · refine .cv (VOk.mv (d := (.v (.int .i64 x4_7))) rfl rfl) rfl rfl ?_
              refine .cv (VOk.mv (d := (.v (.int .i64 x3_1))) rfl rfl) rfl rfl ?_
              refine .cv (VOk.arith (op := .lss) (k := .i64) (a := x4_7) (b := x3_1) rfl rfl rfl rfl) rfl rfl ?_
              exact .done (.rf rfl rfl)
            refine Ok.test (b := (decide (x4_7 < x3_1))) rfl (fun hb26 => ?_) (fun hb26 => ?_)
            · replace H := ifT H hb26
              refine Ok.skip ?_
              refine Ok.seq ?_
              refine Ok.block ?_
              refine Ok.seq ?_
              refine Ok.seq ?_
              obtain ⟨c10, H⟩ := assertE H
              obtain ⟨c11, H⟩ := assertE H
              refine Ok.drawE (σ' := ⟨[(0, (L 4 e_api_Entry a0)), (3, (.v (.int .i64 x3_1))), (4, (.v (.int .i64 x4_7))), (33, (.v (.bool (((rd a0 x3_1).Kind) != ((rd a0 x4_7).Kind)))))], []⟩) [⟨true, [(0, (L 4 e_api_Entry a0))], (L 4 e_api_Entry a0)⟩, ⟨true, [(3, (.v (.int .i64 x3_1)))], (.v (.int .i64 x3_1))⟩, ⟨true, [(23, (L 4 e_api_Entry a0)), (24, (.v (.int .i64 x3_1)))], (.fp (e_api_Entry (rd a0 x3_1)) 0)⟩, ⟨true, [(25, (.fp (e_api_Entry (rd a0 x3_1)) 0))], (.fp (e_api_Entry (rd a0 x3_1)) 0)⟩, ⟨true, [(26, (.fp (e_api_Entry (rd a0 x3_1)) 0))], (.v (.int .i64 ((rd a0 x3_1).Kind)))⟩, ⟨true, [(0, (L 4 e_api_Entry a0))], (L 4 e_api_Entry a0)⟩, ⟨true, [(4, (.v (.int .i64 x4_7)))], (.v (.int .i64 x4_7))⟩, ⟨true, [(28, (L 4 e_api_Entry a0)), (29, (.v (.int .i64 x4_7)))], (.fp (e_api_Entry (rd a0 x4_7)) 0)⟩, ⟨true, [(30, (.fp (e_api_Entry (rd a0 x4_7)) 0))], (.fp (e_api_Entry (rd a0 x4_7)) 0)⟩, ⟨true, [(31, (.fp (e_api_Entry (rd a0 x4_7)) 0))], (.v (.int .i64 ((rd a0 x4_7).Kind)))⟩, ⟨true, [(27, (.v (.int .i64 ((rd a0 x3_1).Kind)))), (32, (.v (.int .i64 ((rd a0 x4_7).Kind))))], (.v (.bool (((rd a0 x3_1).Kind) != ((rd a0 x4_7).Kind))))⟩] [[], [], [0, 1], [2], [3], [], [], [5, 6], [7], [8], [4, 9]] mixed (by kernel_rfl) ?_ ?_
              · refine TxtE.cons rfl ⟨.same _, trivial⟩ rfl (VOk.g (VOk.mv (d := (L 4 e_api_Entry a0)) rfl rfl)) ?_
                refine TxtE.cons rfl ⟨.same _, trivial⟩ rfl (VOk.g (VOk.mv (d := (.v (.int .i64 x3_1))) rfl rfl)) ?_
                refine TxtE.cons rfl ⟨.same _, .same _, trivial⟩ rfl (VOk.g (VOk.indexL (sz := 4) (e := e_api_Entry) (xs := a0) (i := x3_1) rfl Try.underlying36 sz56 rfl rfl c10)) ?_
                refine TxtE.cons rfl ⟨.same _, trivial⟩ rfl (VOk.g (VOk.to (VOk.fieldFp rfl Try.underlying56 rfl sz3 rfl) rfl)) ?_
                refine TxtE.cons rfl ⟨.same _, trivial⟩ rfl (VOk.g (VOk.loadFp (d := (.v (.int .i64 ((rd a0 x3_1).Kind)))) rfl Try.underlying3 rfl rfl rfl)) ?_
                refine TxtE.cons rfl ⟨.same _, trivial⟩ rfl (VOk.g (VOk.mv (d := (L 4 e_api_Entry a0)) rfl rfl)) ?_
                refine TxtE.cons rfl ⟨.same _, trivial⟩ rfl (VOk.g (VOk.mv (d := (.v (.int .i64 x4_7))) rfl rfl)) ?_
                refine TxtE.cons rfl ⟨.same _, .same _, trivial⟩ rfl (VOk.g (VOk.indexL (sz := 4) (e := e_api_Entry) (xs := a0) (i := x4_7) rfl Try.underlying36 sz56 rfl rfl c11)) ?_
                refine TxtE.cons rfl ⟨.same _, trivial⟩ rfl (VOk.g (VOk.to (VOk.fieldFp rfl Try.underlying56 rfl sz3 rfl) rfl)) ?_
                refine TxtE.cons rfl ⟨.same _, trivial⟩ rfl (VOk.g (VOk.loadFp (d := (.v (.int .i64 ((rd a0 x4_7).Kind)))) rfl Try.underlying3 rfl rfl rfl)) ?_
                refine TxtE.cons rfl ⟨.same _, .same _, trivial⟩ rfl (VOk.g (VOk.arith (op := .neq) (k := .i64) (a := (rd a0 x3_1).Kind) (b := (rd a0 x4_7).Kind) rfl rfl rfl rfl)) ?_
                exact .done (.rf rfl rfl)
              refine Ok.test (b := (((rd a0 x3_1).Kind) != ((rd a0 x4_7).Kind))) rfl (fun hb25 => ?_) (fun hb25 => ?_)
              · replace H := ifT H hb25
                refine Ok.exit ?_
                refine Ok.region (σ' := ⟨[(0, (L 4 e_api_Entry a0)), (3, (.v (.int .i64 x3_1))), (4, (.v (.int .i64 (IntKind.i64.wrap (x4_7 + 1)))))], []⟩) ?_ ?_
                · refine .cv (VOk.mv (d := (.v (.int .i64 x4_7))) rfl rfl) rfl rfl ?_
                  refine .cv (VOk.arith (op := .add) (k := .i64) (a := x4_7) (b := 1) rfl rfl rfl rfl) rfl rfl ?_
                  refine .cv (VOk.asg (d := (.v (.int .i64 (IntKind.i64.wrap (x4_7 + 1))))) rfl rfl) rfl rfl ?_
                  exact .done (.rf rfl rfl)
                exact ⟨m9, Nat.lt_succ_self m9, (IntKind.i64.wrap (x4_7 + 1)), rfl, H⟩
              · replace H := ifF H hb25
                refine Ok.skip ?_
                refine Ok.seq ?_
                obtain ⟨c12, H⟩ := assertE H
                obtain ⟨c14, H⟩ := assertE H
                obtain ⟨c15, H⟩ := assertE H
                obtain ⟨c18, H⟩ := assertE H
                obtain ⟨c20, H⟩ := assertE H
                obtain ⟨c21, H⟩ := assertE H
                refine Ok.drawE (σ' := ⟨[(0, (L 4 e_api_Entry a0)), (3, (.v (.int .i64 x3_1))), (4, (.v (.int .i64 x4_7))), (73, (.v (.bool (((((rd a0 x3_1).Kind) == 2) && (((rd a0 x3_1).Name) == ((rd a0 x4_7).Name))) || ((((rd a0 x3_1).Kind) != 2) && (((rd a0 x3_1).URI) == ((rd a0 x4_7).URI)))))))], []⟩) [⟨true, [(0, (L 4 e_api_Entry a0))], (L 4 e_api_Entry a0)⟩, ⟨true, [(3, (.v (.int .i64 x3_1)))], (.v (.int .i64 x3_1))⟩, ⟨true, [(34, (L 4 e_api_Entry a0)), (35, (.v (.int .i64 x3_1)))], (.fp (e_api_Entry (rd a0 x3_1)) 0)⟩, ⟨true, [(36, (.fp (e_api_Entry (rd a0 x3_1)) 0))], (.fp (e_api_Entry (rd a0 x3_1)) 0)⟩, ⟨true, [(37, (.fp (e_api_Entry (rd a0 x3_1)) 0))], (.v (.int .i64 ((rd a0 x3_1).Kind)))⟩, ⟨true, [(38, (.v (.int .i64 ((rd a0 x3_1).Kind))))], (.v (.bool (((rd a0 x3_1).Kind) == 2)))⟩, ⟨true, [(39, (.v (.bool (((rd a0 x3_1).Kind) == 2))))], (.v (.bool (((rd a0 x3_1).Kind) == 2)))⟩, It.I ((((rd a0 x3_1).Kind) == 2) == true) [(0, (L 4 e_api_Entry a0)), (40, (.v (.bool (((rd a0 x3_1).Kind) == 2))))] (L 4 e_api_Entry a0), It.I ((((rd a0 x3_1).Kind) == 2) == true) [(3, (.v (.int .i64 x3_1))), (40, (.v (.bool (((rd a0 x3_1).Kind) == 2))))] (.v (.int .i64 x3_1)), It.I ((((rd a0 x3_1).Kind) == 2) == true) [(41, (bif ((((rd a0 x3_1).Kind) == 2) == true) then (L 4 e_api_Entry a0) else .v undef)), (42, (bif ((((rd a0 x3_1).Kind) == 2) == true) then (.v (.int .i64 x3_1)) else .v undef)), (40, (.v (.bool (((rd a0 x3_1).Kind) == 2))))] (.fp (e_api_Entry (rd a0 x3_1)) 0), It.I ((((rd a0 x3_1).Kind) == 2) == true) [(43, (bif ((((rd a0 x3_1).Kind) == 2) == true) then (.fp (e_api_Entry (rd a0 x3_1)) 0) else .v undef)), (40, (.v (.bool (((rd a0 x3_1).Kind) == 2))))] (.fp (e_api_Entry (rd a0 x3_1)) 2), It.I ((((rd a0 x3_1).Kind) == 2) == true) [(44, (bif ((((rd a0 x3_1).Kind) == 2) == true) then (.fp (e_api_Entry (rd a0 x3_1)) 2) else .v undef)), (40, (.v (.bool (((rd a0 x3_1).Kind) == 2))))] (S ((rd a0 x3_1).Name)), It.I ((((rd a0 x3_1).Kind) == 2) == true) [(0, (L 4 e_api_Entry a0)), (40, (.v (.bool (((rd a0 x3_1).Kind) == 2))))] (L 4 e_api_Entry a0), It.I ((((rd a0 x3_1).Kind) == 2) == true) [(4, (.v (.int .i64 x4_7))), (40, (.v (.bool (((rd a0 x3_1).Kind) == 2))))] (.v (.int .i64 x4_7)), It.I ((((rd a0 x3_1).Kind) == 2) == true) [(46, (bif ((((rd a0 x3_1).Kind) == 2) == true) then (L 4 e_api_Entry a0) else .v undef)), (47, (bif ((((rd a0 x3_1).Kind) == 2) == true) then (.v (.int .i64 x4_7)) else .v undef)), (40, (.v (.bool (((rd a0 x3_1).Kind) == 2))))] (.fp (e_api_Entry (rd a0 x4_7)) 0), It.I ((((rd a0 x3_1).Kind) == 2) == true) [(48, (bif ((((rd a0 x3_1).Kind) == 2) == true) then (.fp (e_api_Entry (rd a0 x4_7)) 0) else .v undef)), (40, (.v (.bool (((rd a0 x3_1).Kind) == 2))))] (.fp (e_api_Entry (rd a0 x4_7)) 2), It.I ((((rd a0 x3_1).Kind) == 2) == true) [(49, (bif ((((rd a0 x3_1).Kind) == 2) == true) then (.fp (e_api_Entry (rd a0 x4_7)) 2) else .v undef)), (40, (.v (.bool (((rd a0 x3_1).Kind) == 2))))] (S ((rd a0 x4_7).Name)), It.I ((((rd a0 x3_1).Kind) == 2) == true) [(45, (bif ((((rd a0 x3_1).Kind) == 2) == true) then (S ((rd a0 x3_1).Name)) else .v undef)), (50, (bif ((((rd a0 x3_1).Kind) == 2) == true) then (S ((rd a0 x4_7).Name)) else .v undef)), (40, (.v (.bool (((rd a0 x3_1).Kind) == 2))))] (.v (.bool (((rd a0 x3_1).Name) == ((rd a0 x4_7).Name)))), ⟨true, [(40, (.v (.bool (((rd a0 x3_1).Kind) == 2)))), (51, (bif ((((rd a0 x3_1).Kind) == 2) == true) then (.v (.bool (((rd a0 x3_1).Name) == ((rd a0 x4_7).Name)))) else .v undef))], (.v (.bool ((((rd a0 x3_1).Kind) == 2) && (((rd a0 x3_1).Name) == ((rd a0 x4_7).Name)))))⟩, ⟨true, [(52, (.v (.bool ((((rd a0 x3_1).Kind) == 2) && (((rd a0 x3_1).Name) == ((rd a0 x4_7).Name))))))], (.v (.bool ((((rd a0 x3_1).Kind) == 2) && (((rd a0 x3_1).Name) == ((rd a0 x4_7).Name)))))⟩, It.I (((((rd a0 x3_1).Kind) == 2) && (((rd a0 x3_1).Name) == ((rd a0 x4_7).Name))) == false) [(0, (L 4 e_api_Entry a0)), (53, (.v (.bool ((((rd a0 x3_1).Kind) == 2) && (((rd a0 x3_1).Name) == ((rd a0 x4_7).Name))))))] (L 4 e_api_Entry a0), It.I (((((rd a0 x3_1).Kind) == 2) && (((rd a0 x3_1).Name) == ((rd a0 x4_7).Name))) == false) [(3, (.v (.int .i64 x3_1))), (53, (.v (.bool ((((rd a0 x3_1).Kind) == 2) && (((rd a0 x3_1).Name) == ((rd a0 x4_7).Name))))))] (.v (.int .i64 x3_1)), It.I (((((rd a0 x3_1).Kind) == 2) && (((rd a0 x3_1).Name) == ((rd a0 x4_7).Name))) == false) [(54, (bif (((((rd a0 x3_1).Kind) == 2) && (((rd a0 x3_1).Name) == ((rd a0 x4_7).Name))) == false) then (L 4 e_api_Entry a0) else .v undef)), (55, (bif (((((rd a0 x3_1).Kind) == 2) && (((rd a0 x3_1).Name) == ((rd a0 x4_7).Name))) == false) then (.v (.int .i64 x3_1)) else .v undef)), (53, (.v (.bool ((((rd a0 x3_1).Kind) == 2) && (((rd a0 x3_1).Name) == ((rd a0 x4_7).Name))))))] (.fp (e_api_Entry (rd a0 x3_1)) 0), It.I (((((rd a0 x3_1).Kind) == 2) && (((rd a0 x3_1).Name) == ((rd a0 x4_7).Name))) == false) [(56, (bif (((((rd a0 x3_1).Kind) == 2) && (((rd a0 x3_1).Name) == ((rd a0 x4_7).Name))) == false) then (.fp (e_api_Entry (rd a0 x3_1)) 0) else .v undef)), (53, (.v (.bool ((((rd a0 x3_1).Kind) == 2) && (((rd a0 x3_1).Name) == ((rd a0 x4_7).Name))))))] (.fp (e_api_Entry (rd a0 x3_1)) 0), It.I (((((rd a0 x3_1).Kind) == 2) && (((rd a0 x3_1).Name) == ((rd a0 x4_7).Name))) == false) [(57, (bif (((((rd a0 x3_1).Kind) == 2) && (((rd a0 x3_1).Name) == ((rd a0 x4_7).Name))) == false) then (.fp (e_api_Entry (rd a0 x3_1)) 0) else .v undef)), (53, (.v (.bool ((((rd a0 x3_1).Kind) == 2) && (((rd a0 x3_1).Name) == ((rd a0 x4_7).Name))))))] (.v (.int .i64 ((rd a0 x3_1).Kind))), It.I (((((rd a0 x3_1).Kind) == 2) && (((rd a0 x3_1).Name) == ((rd a0 x4_7).Name))) == false) [(58, (bif (((((rd a0 x3_1).Kind) == 2) && (((rd a0 x3_1).Name) == ((rd a0 x4_7).Name))) == false) then (.v (.int .i64 ((rd a0 x3_1).Kind))) else .v undef)), (53, (.v (.bool ((((rd a0 x3_1).Kind) == 2) && (((rd a0 x3_1).Name) == ((rd a0 x4_7).Name))))))] (.v (.bool (((rd a0 x3_1).Kind) != 2))), It.I (((((rd a0 x3_1).Kind) == 2) && (((rd a0 x3_1).Name) == ((rd a0 x4_7).Name))) == false) [(59, (bif (((((rd a0 x3_1).Kind) == 2) && (((rd a0 x3_1).Name) == ((rd a0 x4_7).Name))) == false) then (.v (.bool (((rd a0 x3_1).Kind) != 2))) else .v undef)), (53, (.v (.bool ((((rd a0 x3_1).Kind) == 2) && (((rd a0 x3_1).Name) == ((rd a0 x4_7).Name))))))] (.v (.bool (((rd a0 x3_1).Kind) != 2))), It.I ((((((rd a0 x3_1).Kind) == 2) && (((rd a0 x3_1).Name) == ((rd a0 x4_7).Name))) == false) && ((((rd a0 x3_1).Kind) != 2) == true)) [(0, (L 4 e_api_Entry a0)), (60, (bif (((((rd a0 x3_1).Kind) == 2) && (((rd a0 x3_1).Name) == ((rd a0 x4_7).Name))) == false) then (.v (.bool (((rd a0 x3_1).Kind) != 2))) else .v undef))] (L 4 e_api_Entry a0), It.I ((((((rd a0 x3_1).Kind) == 2) && (((rd a0 x3_1).Name) == ((rd a0 x4_7).Name))) == false) && ((((rd a0 x3_1).Kind) != 2) == true)) [(3, (.v (.int .i64 x3_1))), (60, (bif (((((rd a0 x3_1).Kind) == 2) && (((rd a0 x3_1).Name) == ((rd a0 x4_7).Name))) == false) then (.v (.bool (((rd a0 x3_1).Kind) != 2))) else .v undef))] (.v (.int .i64 x3_1)), It.I ((((((rd a0 x3_1).Kind) == 2) && (((rd a0 x3_1).Name) == ((rd a0 x4_7).Name))) == false) && ((((rd a0 x3_1).Kind) != 2) == true)) [(61, (bif ((((((rd a0 x3_1).Kind) == 2) && (((rd a0 x3_1).Name) == ((rd a0 x4_7).Name))) == false) && ((((rd a0 x3_1).Kind) != 2) == true)) then (L 4 e_api_Entry a0) else .v undef)), (62, (bif ((((((rd a0 x3_1).Kind) == 2) && (((rd a0 x3_1).Name) == ((rd a0 x4_7).Name))) == false) && ((((rd a0 x3_1).Kind) != 2) == true)) then (.v (.int .i64 x3_1)) else .v undef)), (60, (bif (((((rd a0 x3_1).Kind) == 2) && (((rd a0 x3_1).Name) == ((rd a0 x4_7).Name))) == false) then (.v (.bool (((rd a0 x3_1).Kind) != 2))) else .v undef))] (.fp (e_api_Entry (rd a0 x3_1)) 0), It.I ((((((rd a0 x3_1).Kind) == 2) && (((rd a0 x3_1).Name) == ((rd a0 x4_7).Name))) == false) && ((((rd a0 x3_1).Kind) != 2) == true)) [(63, (bif ((((((rd a0 x3_1).Kind) == 2) && (((rd a0 x3_1).Name) == ((rd a0 x4_7).Name))) == false) && ((((rd a0 x3_1).Kind) != 2) == true)) then (.fp (e_api_Entry (rd a0 x3_1)) 0) else .v undef)), (60, (bif (((((rd a0 x3_1).Kind) == 2) && (((rd a0 x3_1).Name) == ((rd a0 x4_7).Name))) == false) then (.v (.bool (((rd a0 x3_1).Kind) != 2))) else .v undef))] (.fp (e_api_Entry (rd a0 x3_1)) 1), It.I ((((((rd a0 x3_1).Kind) == 2) && (((rd a0 x3_1).Name) == ((rd a0 x4_7).Name))) == false) && ((((rd a0 x3_1).Kind) != 2) == true)) [(64, (bif ((((((rd a0 x3_1).Kind) == 2) && (((rd a0 x3_1).Name) == ((rd a0 x4_7).Name))) == false) && ((((rd a0 x3_1).Kind) != 2) == true)) then (.fp (e_api_Entry (rd a0 x3_1)) 1) else .v undef)), (60, (bif (((((rd a0 x3_1).Kind) == 2) && (((rd a0 x3_1).Name) == ((rd a0 x4_7).Name))) == false) then (.v (.bool (((rd a0 x3_1).Kind) != 2))) else .v undef))] (S ((rd a0 x3_1).URI)), It.I ((((((rd a0 x3_1).Kind) == 2) && (((rd a0 x3_1).Name) == ((rd a0 x4_7).Name))) == false) && ((((rd a0 x3_1).Kind) != 2) == true)) [(0, (L 4 e_api_Entry a0)), (60, (bif (((((rd a0 x3_1).Kind) == 2) && (((rd a0 x3_1).Name) == ((rd a0 x4_7).Name))) == false) then (.v (.bool (((rd a0 x3_1).Kind) != 2))) else .v undef))] (L 4 e_api_Entry a0), It.I ((((((rd a0 x3_1).Kind) == 2) && (((rd a0 x3_1).Name) == ((rd a0 x4_7).Name))) == false) && ((((rd a0 x3_1).Kind) != 2) == true)) [(4, (.v (.int .i64 x4_7))), (60, (bif (((((rd a0 x3_1).Kind) == 2) && (((rd a0 x3_1).Name) == ((rd a0 x4_7).Name))) == false) then (.v (.bool (((rd a0 x3_1).Kind) != 2))) else .v undef))] (.v (.int .i64 x4_7)), It.I ((((((rd a0 x3_1).Kind) == 2) && (((rd a0 x3_1).Name) == ((rd a0 x4_7).Name))) == false) && ((((rd a0 x3_1).Kind) != 2) == true)) [(66, (bif ((((((rd a0 x3_1).Kind) == 2) && (((rd a0 x3_1).Name) == ((rd a0 x4_7).Name))) == false) && ((((rd a0 x3_1).Kind) != 2) == true)) then (L 4 e_api_Entry a0) else .v undef)), (67, (bif ((((((rd a0 x3_1).Kind) == 2) && (((rd a0 x3_1).Name) == ((rd a0 x4_7).Name))) == false) && ((((rd a0 x3_1).Kind) != 2) == true)) then (.v (.int .i64 x4_7)) else .v undef)), (60, (bif (((((rd a0 x3_1).Kind) == 2) && (((rd a0 x3_1).Name) == ((rd a0 x4_7).Name))) == false) then (.v (.bool (((rd a0 x3_1).Kind) != 2))) else .v undef))] (.fp (e_api_Entry (rd a0 x4_7)) 0), It.I ((((((rd a0 x3_1).Kind) == 2) && (((rd a0 x3_1).Name) == ((rd a0 x4_7).Name))) == false) && ((((rd a0 x3_1).Kind) != 2) == true)) [(68, (bif ((((((rd a0 x3_1).Kind) == 2) && (((rd a0 x3_1).Name) == ((rd a0 x4_7).Name))) == false) && ((((rd a0 x3_1).Kind) != 2) == true)) then (.fp (e_api_Entry (rd a0 x4_7)) 0) else .v undef)), (60, (bif (((((rd a0 x3_1).Kind) == 2) && (((rd a0 x3_1).Name) == ((rd a0 x4_7).Name))) == false) then (.v (.bool (((rd a0 x3_1).Kind) != 2))) else .v undef))] (.fp (e_api_Entry (rd a0 x4_7)) 1), It.I ((((((rd a0 x3_1).Kind) == 2) && (((rd a0 x3_1).Name) == ((rd a0 x4_7).Name))) == false) && ((((rd a0 x3_1).Kind) != 2) == true)) [(69, (bif ((((((rd a0 x3_1).Kind) == 2) && (((rd a0 x3_1).Name) == ((rd a0 x4_7).Name))) == false) && ((((rd a0 x3_1).Kind) != 2) == true)) then (.fp (e_api_Entry (rd a0 x4_7)) 1) else .v undef)), (60, (bif (((((rd a0 x3_1).Kind) == 2) && (((rd a0 x3_1).Name) == ((rd a0 x4_7).Name))) == false) then (.v (.bool (((rd a0 x3_1).Kind) != 2))) else .v undef))] (S ((rd a0 x4_7).URI)), It.I ((((((rd a0 x3_1).Kind) == 2) && (((rd a0 x3_1).Name) == ((rd a0 x4_7).Name))) == false) && ((((rd a0 x3_1).Kind) != 2) == true)) [(65, (bif ((((((rd a0 x3_1).Kind) == 2) && (((rd a0 x3_1).Name) == ((rd a0 x4_7).Name))) == false) && ((((rd a0 x3_1).Kind) != 2) == true)) then (S ((rd a0 x3_1).URI)) else .v undef)), (70, (bif ((((((rd a0 x3_1).Kind) == 2) && (((rd a0 x3_1).Name) == ((rd a0 x4_7).Name))) == false) && ((((rd a0 x3_1).Kind) != 2) == true)) then (S ((rd a0 x4_7).URI)) else .v undef)), (60, (bif (((((rd a0 x3_1).Kind) == 2) && (((rd a0 x3_1).Name) == ((rd a0 x4_7).Name))) == false) then (.v (.bool (((rd a0 x3_1).Kind) != 2))) else .v undef))] (.v (.bool (((rd a0 x3_1).URI) == ((rd a0 x4_7).URI)))), It.I (((((rd a0 x3_1).Kind) == 2) && (((rd a0 x3_1).Name) == ((rd a0 x4_7).Name))) == false) [(60, (bif (((((rd a0 x3_1).Kind) == 2) && (((rd a0 x3_1).Name) == ((rd a0 x4_7).Name))) == false) then (.v (.bool (((rd a0 x3_1).Kind) != 2))) else .v undef)), (71, (bif ((((((rd a0 x3_1).Kind) == 2) && (((rd a0 x3_1).Name) == ((rd a0 x4_7).Name))) == false) && ((((rd a0 x3_1).Kind) != 2) == true)) then (.v (.bool (((rd a0 x3_1).URI) == ((rd a0 x4_7).URI)))) else .v undef)), (53, (.v (.bool ((((rd a0 x3_1).Kind) == 2) && (((rd a0 x3_1).Name) == ((rd a0 x4_7).Name))))))] (.v (.bool ((((rd a0 x3_1).Kind) != 2) && (((rd a0 x3_1).URI) == ((rd a0 x4_7).URI))))), ⟨true, [(53, (.v (.bool ((((rd a0 x3_1).Kind) == 2) && (((rd a0 x3_1).Name) == ((rd a0 x4_7).Name)))))), (72, (bif (((((rd a0 x3_1).Kind) == 2) && (((rd a0 x3_1).Name) == ((rd a0 x4_7).Name))) == false) then (.v (.bool ((((rd a0 x3_1).Kind) != 2) && (((rd a0 x3_1).URI) == ((rd a0 x4_7).URI))))) else .v undef))], (.v (.bool (((((rd a0 x3_1).Kind) == 2) && (((rd a0 x3_1).Name) == ((rd a0 x4_7).Name))) || ((((rd a0 x3_1).Kind) != 2) && (((rd a0 x3_1).URI) == ((rd a0 x4_7).URI))))))⟩] [[], [], [0, 1], [2], [3], [4], [5], [6], [6], [6, 7, 8], [6, 9], [6, 10], [6], [6], [6, 12, 13], [6, 14], [6, 15], [6, 11, 16], [6, 17], [18], [19], [19], [19, 20, 21], [19, 22], [19, 23], [19, 24], [19, 25], [26], [26], [26, 27, 28], [26, 29], [26, 30], [26], [26], [26, 32, 33], [26, 34], [26, 35], [26, 31, 36], [19, 26, 37], [19, 38]] mixed (by kernel_rfl) ?_ ?_
                · refine TxtE.cons rfl ⟨.same _, trivial⟩ rfl (VOk.g (VOk.mv (d := (L 4 e_api_Entry a0)) rfl rfl)) ?_
                  refine TxtE.cons rfl ⟨.same _, trivial⟩ rfl (VOk.g (VOk.mv (d := (.v (.int .i64 x3_1))) rfl rfl)) ?_
                  refine TxtE.cons rfl ⟨.same _, .same _, trivial⟩ rfl (VOk.g (VOk.indexL (sz := 4) (e := e_api_Entry) (xs := a0) (i := x3_1) rfl Try.underlying36 sz56 rfl rfl c12)) ?_
                  refine TxtE.cons rfl ⟨.same _, trivial⟩ rfl (VOk.g (VOk.to (VOk.fieldFp rfl Try.underlying56 rfl sz3 rfl) rfl)) ?_
                  refine TxtE.cons rfl ⟨.same _, trivial⟩ rfl (VOk.g (VOk.loadFp (d := (.v (.int .i64 ((rd a0 x3_1).Kind)))) rfl Try.underlying3 rfl rfl rfl)) ?_
                  refine TxtE.cons rfl ⟨.same _, trivial⟩ rfl (VOk.g (VOk.arith (op := .eql) (k := .i64) (a := (rd a0 x3_1).Kind) (b := 2) rfl rfl rfl rfl)) ?_
                  refine TxtE.cons rfl ⟨.same _, trivial⟩ rfl (VOk.g (VOk.mv (d := (.v (.bool (((rd a0 x3_1).Kind) == 2)))) rfl rfl)) ?_
                  refine TxtE.consI rfl ⟨.same _, .same _, trivial⟩ rfl rfl (.one rfl) (fun hw13 => (VOk.g (VOk.mv (d := (L 4 e_api_Entry a0)) rfl rfl))) ?_
                  refine TxtE.consI rfl ⟨.same _, .same _, trivial⟩ rfl rfl (.one rfl) (fun hw13 => (VOk.g (VOk.mv (d := (.v (.int .i64 x3_1))) rfl rfl))) ?_
                  refine TxtE.consI rfl ⟨.same _, .same _, .same _, trivial⟩ rfl rfl (.one rfl) (fun hw13 => (GOk.fr (fr' := [(41, (L 4 e_api_Entry a0)), (42, (.v (.int .i64 x3_1)))]) ⟨DLe.of_eq (cT hw13).symm, DLe.of_eq (cT hw13).symm, trivial⟩ (VOk.g (VOk.indexL (sz := 4) (e := e_api_Entry) (xs := a0) (i := x3_1) rfl Try.underlying36 sz56 rfl rfl (c14 hw13))))) ?_
                  refine TxtE.consI rfl ⟨.same _, .same _, trivial⟩ rfl rfl (.one rfl) (fun hw13 => (GOk.fr (fr' := [(43, (.fp (e_api_Entry (rd a0 x3_1)) 0))]) ⟨DLe.of_eq (cT hw13).symm, trivial⟩ (VOk.g (VOk.to (VOk.fieldFp rfl Try.underlying56 rfl sz9 rfl) rfl)))) ?_
                  refine TxtE.consI rfl ⟨.same _, .same _, trivial⟩ rfl rfl (.one rfl) (fun hw13 => (GOk.fr (fr' := [(44, (.fp (e_api_Entry (rd a0 x3_1)) 2))]) ⟨DLe.of_eq (cT hw13).symm, trivial⟩ (VOk.g (VOk.loadFp (d := (S ((rd a0 x3_1).Name))) rfl Try.underlying9 rfl rfl rfl)))) ?_
                  refine TxtE.consI rfl ⟨.same _, .same _, trivial⟩ rfl rfl (.one rfl) (fun hw13 => (VOk.g (VOk.mv (d := (L 4 e_api_Entry a0)) rfl rfl))) ?_
                  refine TxtE.consI rfl ⟨.same _, .same _, trivial⟩ rfl rfl (.one rfl) (fun hw13 => (VOk.g (VOk.mv (d := (.v (.int .i64 x4_7))) rfl rfl))) ?_
                  refine TxtE.consI rfl ⟨.same _, .same _, .same _, trivial⟩ rfl rfl (.one rfl) (fun hw13 => (GOk.fr (fr' := [(46, (L 4 e_api_Entry a0)), (47, (.v (.int .i64 x4_7)))]) ⟨DLe.of_eq (cT hw13).symm, DLe.of_eq (cT hw13).symm, trivial⟩ (VOk.g (VOk.indexL (sz := 4) (e := e_api_Entry) (xs := a0) (i := x4_7) rfl Try.underlying36 sz56 rfl rfl (c15 hw13))))) ?_
                  refine TxtE.consI rfl ⟨.same _, .same _, trivial⟩ rfl rfl (.one rfl) (fun hw13 => (GOk.fr (fr' := [(48, (.fp (e_api_Entry (rd a0 x4_7)) 0))]) ⟨DLe.of_eq (cT hw13).symm, trivial⟩ (VOk.g (VOk.to (VOk.fieldFp rfl Try.underlying56 rfl sz9 rfl) rfl)))) ?_
                  refine TxtE.consI rfl ⟨.same _, .same _, trivial⟩ rfl rfl (.one rfl) (fun hw13 => (GOk.fr (fr' := [(49, (.fp (e_api_Entry (rd a0 x4_7)) 2))]) ⟨DLe.of_eq (cT hw13).symm, trivial⟩ (VOk.g (VOk.loadFp (d := (S ((rd a0 x4_7).Name))) rfl Try.underlying9 rfl rfl rfl)))) ?_
                  refine TxtE.consI rfl ⟨.same _, .same _, .same _, trivial⟩ rfl rfl (.one rfl) (fun hw13 => (GOk.fr (fr' := [(45, (S ((rd a0 x3_1).Name))), (50, (S ((rd a0 x4_7).Name)))]) ⟨DLe.of_eq (cT hw13).symm, DLe.of_eq (cT hw13).symm, trivial⟩ (VOk.g (VOk.strOp (op := .eql) (a := (rd a0 x3_1).Name) (b := (rd a0 x4_7).Name) rfl rfl rfl rfl)))) ?_
                  refine TxtE.cons rfl ⟨.same _, .same _, trivial⟩ rfl (VOk.g (VOk.to (VOk.pickI (b := (((rd a0 x3_1).Kind) == 2)) (p := (((rd a0 x3_1).Name) == ((rd a0 x4_7).Name))) (q := false) rfl rfl (fun hp16 => (cT (t_beq hp16))) (fun hp16 => rfl)) (pickAnd (((rd a0 x3_1).Kind) == 2) (((rd a0 x3_1).Name) == ((rd a0 x4_7).Name))))) ?_
                  refine TxtE.cons rfl ⟨.same _, trivial⟩ rfl (VOk.g (VOk.mv (d := (.v (.bool ((((rd a0 x3_1).Kind) == 2) && (((rd a0 x3_1).Name) == ((rd a0 x4_7).Name)))))) rfl rfl)) ?_
                  refine TxtE.consI rfl ⟨.same _, .same _, trivial⟩ rfl rfl (.one rfl) (fun hw17 => (VOk.g (VOk.mv (d := (L 4 e_api_Entry a0)) rfl rfl))) ?_
                  refine TxtE.consI rfl ⟨.same _, .same _, trivial⟩ rfl rfl (.one rfl) (fun hw17 => (VOk.g (VOk.mv (d := (.v (.int .i64 x3_1))) rfl rfl))) ?_
                  refine TxtE.consI rfl ⟨.same _, .same _, .same _, trivial⟩ rfl rfl (.one rfl) (fun hw17 => (GOk.fr (fr' := [(54, (L 4 e_api_Entry a0)), (55, (.v (.int .i64 x3_1)))]) ⟨DLe.of_eq (cT hw17).symm, DLe.of_eq (cT hw17).symm, trivial⟩ (VOk.g (VOk.indexL (sz := 4) (e := e_api_Entry) (xs := a0) (i := x3_1) rfl Try.underlying36 sz56 rfl rfl (c18 hw17))))) ?_
                  refine TxtE.consI rfl ⟨.same _, .same _, trivial⟩ rfl rfl (.one rfl) (fun hw17 => (GOk.fr (fr' := [(56, (.fp (e_api_Entry (rd a0 x3_1)) 0))]) ⟨DLe.of_eq (cT hw17).symm, trivial⟩ (VOk.g (VOk.to (VOk.fieldFp rfl Try.underlying56 rfl sz3 rfl) rfl)))) ?_
                  refine TxtE.consI rfl ⟨.same _, .same _, trivial⟩ rfl rfl (.one rfl) (fun hw17 => (GOk.fr (fr' := [(57, (.fp (e_api_Entry (rd a0 x3_1)) 0))]) ⟨DLe.of_eq (cT hw17).symm, trivial⟩ (VOk.g (VOk.loadFp (d := (.v (.int .i64 ((rd a0 x3_1).Kind)))) rfl Try.underlying3 rfl rfl rfl)))) ?_
                  refine TxtE.consI rfl ⟨.same _, .same _, trivial⟩ rfl rfl (.one rfl) (fun hw17 => (GOk.fr (fr' := [(58, (.v (.int .i64 ((rd a0 x3_1).Kind))))]) ⟨DLe.of_eq (cT hw17).symm, trivial⟩ (VOk.g (VOk.arith (op := .neq) (k := .i64) (a := (rd a0 x3_1).Kind) (b := 2) rfl rfl rfl rfl)))) ?_
                  refine TxtE.consI rfl ⟨.same _, .same _, trivial⟩ rfl rfl (.one rfl) (fun hw17 => (GOk.fr (fr' := [(59, (.v (.bool (((rd a0 x3_1).Kind) != 2))))]) ⟨DLe.of_eq (cT hw17).symm, trivial⟩ (VOk.g (VOk.mv (d := (.v (.bool (((rd a0 x3_1).Kind) != 2)))) rfl rfl)))) ?_
                  refine TxtE.consI rfl ⟨.same _, .same _, trivial⟩ rfl rfl (.two rfl) (fun hw19 => (VOk.g (VOk.mv (d := (L 4 e_api_Entry a0)) rfl rfl))) ?_
                  refine TxtE.consI rfl ⟨.same _, .same _, trivial⟩ rfl rfl (.two rfl) (fun hw19 => (VOk.g (VOk.mv (d := (.v (.int .i64 x3_1))) rfl rfl))) ?_
                  refine TxtE.consI rfl ⟨.same _, .same _, .same _, trivial⟩ rfl rfl (.two rfl) (fun hw19 => (GOk.fr (fr' := [(61, (L 4 e_api_Entry a0)), (62, (.v (.int .i64 x3_1)))]) ⟨DLe.of_eq (cT hw19).symm, DLe.of_eq (cT hw19).symm, trivial⟩ (VOk.g (VOk.indexL (sz := 4) (e := e_api_Entry) (xs := a0) (i := x3_1) rfl Try.underlying36 sz56 rfl rfl (c20 hw19))))) ?_
                  refine TxtE.consI rfl ⟨.same _, .same _, trivial⟩ rfl rfl (.two rfl) (fun hw19 => (GOk.fr (fr' := [(63, (.fp (e_api_Entry (rd a0 x3_1)) 0))]) ⟨DLe.of_eq (cT hw19).symm, trivial⟩ (VOk.g (VOk.to (VOk.fieldFp rfl Try.underlying56 rfl sz9 rfl) rfl)))) ?_
                  refine TxtE.consI rfl ⟨.same _, .same _, trivial⟩ rfl rfl (.two rfl) (fun hw19 => (GOk.fr (fr' := [(64, (.fp (e_api_Entry (rd a0 x3_1)) 1))]) ⟨DLe.of_eq (cT hw19).symm, trivial⟩ (VOk.g (VOk.loadFp (d := (S ((rd a0 x3_1).URI))) rfl Try.underlying9 rfl rfl rfl)))) ?_
                  refine TxtE.consI rfl ⟨.same _, .same _, trivial⟩ rfl rfl (.two rfl) (fun hw19 => (VOk.g (VOk.mv (d := (L 4 e_api_Entry a0)) rfl rfl))) ?_
                  refine TxtE.consI rfl ⟨.same _, .same _, trivial⟩ rfl rfl (.two rfl) (fun hw19 => (VOk.g (VOk.mv (d := (.v (.int .i64 x4_7))) rfl rfl))) ?_
                  refine TxtE.consI rfl ⟨.same _, .same _, .same _, trivial⟩ rfl rfl (.two rfl) (fun hw19 => (GOk.fr (fr' := [(66, (L 4 e_api_Entry a0)), (67, (.v (.int .i64 x4_7)))]) ⟨DLe.of_eq (cT hw19).symm, DLe.of_eq (cT hw19).symm, trivial⟩ (VOk.g (VOk.indexL (sz := 4) (e := e_api_Entry) (xs := a0) (i := x4_7) rfl Try.underlying36 sz56 rfl rfl (c21 hw19))))) ?_
                  refine TxtE.consI rfl ⟨.same _, .same _, trivial⟩ rfl rfl (.two rfl) (fun hw19 => (GOk.fr (fr' := [(68, (.fp (e_api_Entry (rd a0 x4_7)) 0))]) ⟨DLe.of_eq (cT hw19).symm, trivial⟩ (VOk.g (VOk.to (VOk.fieldFp rfl Try.underlying56 rfl sz9 rfl) rfl)))) ?_
                  refine TxtE.consI rfl ⟨.same _, .same _, trivial⟩ rfl rfl (.two rfl) (fun hw19 => (GOk.fr (fr' := [(69, (.fp (e_api_Entry (rd a0 x4_7)) 1))]) ⟨DLe.of_eq (cT hw19).symm, trivial⟩ (VOk.g (VOk.loadFp (d := (S ((rd a0 x4_7).URI))) rfl Try.underlying9 rfl rfl rfl)))) ?_
                  refine TxtE.consI rfl ⟨.same _, .same _, .same _, trivial⟩ rfl rfl (.two rfl) (fun hw19 => (GOk.fr (fr' := [(65, (S ((rd a0 x3_1).URI))), (70, (S ((rd a0 x4_7).URI)))]) ⟨DLe.of_eq (cT hw19).symm, DLe.of_eq (cT hw19).symm, trivial⟩ (VOk.g (VOk.strOp (op := .eql) (a := (rd a0 x3_1).URI) (b := (rd a0 x4_7).URI) rfl rfl rfl rfl)))) ?_
                  refine TxtE.consI rfl ⟨.same _, .same _, .same _, trivial⟩ rfl rfl (.one rfl) (fun hw17 => (VOk.g (VOk.to (VOk.pickI (b := (((rd a0 x3_1).Kind) != 2)) (p := (((rd a0 x3_1).URI) == ((rd a0 x4_7).URI))) (q := false) rfl (cT hw17) (fun hp22 => (cT (and_i hw17 (t_beq hp22)))) (fun hp22 => rfl)) (pickAnd (((rd a0 x3_1).Kind) != 2) (((rd a0 x3_1).URI) == ((rd a0 x4_7).URI)))))) ?_
                  refine TxtE.cons rfl ⟨.same _, .same _, trivial⟩ rfl (VOk.g (VOk.to (VOk.pickI (b := ((((rd a0 x3_1).Kind) == 2) && (((rd a0 x3_1).Name) == ((rd a0 x4_7).Name)))) (p := true) (q := ((((rd a0 x3_1).Kind) != 2) && (((rd a0 x3_1).URI) == ((rd a0 x4_7).URI)))) rfl rfl (fun hp23 => rfl) (fun hp23 => (cT (f_beq hp23)))) (pickOr ((((rd a0 x3_1).Kind) == 2) && (((rd a0 x3_1).Name) == ((rd a0 x4_7).Name))) ((((rd a0 x3_1).Kind) != 2) && (((rd a0 x3_1).URI) == ((rd a0 x4_7).URI)))))) ?_
                  exact .done (.rf rfl rfl)
                refine Ok.test (b := (((((rd a0 x3_1).Kind) == 2) && (((rd a0 x3_1).Name) == ((rd a0 x4_7).Name))) || ((((rd a0 x3_1).Kind) != 2) && (((rd a0 x3_1).URI) == ((rd a0 x4_7).URI))))) rfl (fun hb24 => ?_) (fun hb24 => ?_)
                · replace H := ifT H hb24
                  refine Ok.seq ?_
                  refine Ok.region (σ' := ⟨[(2, (.v (.bool false)))], []⟩) ?_ ?_
                  · refine .cv (VOk.asg (d := (.v (.bool false))) rfl rfl) rfl rfl ?_
                    exact .done (.rf rfl rfl)
                  refine Ok.ret ?_
                  obtain rfl := Option.some.inj H
                  exact ⟨.inl rfl, ⟨_, (.cons (.tmp rfl) .nil), rfl⟩, trivial⟩
                · replace H := ifF H hb24
                  refine Ok.skip ?_
                  refine Ok.region (σ' := ⟨[(0, (L 4 e_api_Entry a0)), (3, (.v (.int .i64 x3_1))), (4, (.v (.int .i64 (IntKind.i64.wrap (x4_7 + 1)))))], []⟩) ?_ ?_
                  · refine .cv (VOk.mv (d := (.v (.int .i64 x4_7))) rfl rfl) rfl rfl ?_
                    refine .cv (VOk.arith (op := .add) (k := .i64) (a := x4_7) (b := 1) rfl rfl rfl rfl) rfl rfl ?_
                    refine .cv (VOk.asg (d := (.v (.int .i64 (IntKind.i64.wrap (x4_7 + 1))))) rfl rfl) rfl rfl ?_
                    exact .done (.rf rfl rfl)
                  exact ⟨m9, Nat.lt_succ_self m9, (IntKind.i64.wrap (x4_7 + 1)), rfl, H⟩
            · replace H := ifF H hb26
              refine Ok.exit ?_
              refine Ok.region (σ' := ⟨[(0, (L 4 e_api_Entry a0)), (3, (.v (.int .i64 (IntKind.i64.wrap (x3_1 + 1)))))], []⟩) ?_ ?_
              · refine .cv (VOk.mv (d := (.v (.int .i64 x3_1))) rfl rfl) rfl rfl ?_
                refine .cv (VOk.arith (op := .add) (k := .i64) (a := x3_1) (b := 1) rfl rfl rfl rfl) rfl rfl ?_
                refine .cv (VOk.asg (d := (.v (.int .i64 (IntKind.i64.wrap (x3_1 + 1))))) rfl rfl) rfl rfl ?_
                exact .done (.rf rfl rfl)
              exact ⟨m3, Nat.lt_succ_self m3, (IntKind.i64.wrap (x3_1 + 1)), rfl, H⟩
      · replace H := ifF H hb28
        refine Ok.exit ?_
        refine Ok.seq ?_
        refine Ok.region (σ' := ⟨[(2, (.v (.bool true)))], []⟩) ?_ ?_
        · refine .cv (VOk.asg (d := (.v (.bool true))) rfl rfl) rfl rfl ?_
          exact .done (.rf rfl rfl)
        refine Ok.ret ?_
        obtain rfl := Option.some.inj H
        exact ⟨.inl rfl, ⟨_, (.cons (.tmp rfl) .nil), rfl⟩, trivial⟩

/-! watchbill/watchbillref17.unique: function 33 -/
def watchbillref17_unique.l1 (k : Nat) (c0 : Int → Option Bool) (a0 : List T_api_Service) (x3_1 : Int) : Nat → Int → Option Bool
  | 0, _ => none
  | m9 + 1, x4_7 => (if (decide (x4_7 < x3_1)) = true then (if (0 : Int) ≤ x4_7 ∧ x4_7 < (a0.length : Int) then (if (0 : Int) ≤ x3_1 ∧ x3_1 < (a0.length : Int) then (if (((rd a0 x4_7).URI) == ((rd a0 x3_1).URI)) = true then some false else watchbillref17_unique.l1 k c0 a0 x3_1 m9 (IntKind.i64.wrap (x4_7 + 1))) else none) else none) else c0 (IntKind.i64.wrap (x3_1 + 1)))
def watchbillref17_unique.l0 (k : Nat) (a0 : List T_api_Service) : Nat → Int → Option Bool
  | 0, _ => none
  | m3 + 1, x3_1 => (if (decide (x3_1 < (a0.length : Int))) = true then (if (0 : Int) ≤ x3_1 ∧ x3_1 < (a0.length : Int) then ((watchbillref16_Unique k ((rd a0 x3_1).List_)).bind fun (t5 : Bool) => (if (!t5) = true then some false else watchbillref17_unique.l1 k (watchbillref17_unique.l0 k a0 m3) a0 x3_1 k 0)) else none) else some true)
def watchbillref17_unique (k : Nat) (a0 : List T_api_Service) : Option Bool := watchbillref17_unique.l0 k a0 k 0
theorem watchbillref17_unique.ok {k : Nat} {a0 : List T_api_Service} {r : Bool} (H : watchbillref17_unique k a0 = some r) : Vx.Fn Try.prog 33 [(L 5 e_api_Service a0)] [] (.v (.bool r)) [] := by
  unfold watchbillref17_unique at H
  refine Vx.Fn.of_okR Try.func33 rfl (Nat.le_of_ble_eq_true rfl) ?_
  refine Ok.seq ?_
  refine Ok.region (σ' := ⟨[(0, (L 5 e_api_Service a0))], []⟩) ?_ ?_
  · refine .cv (VOk.asg (d := (.v (.bool false))) rfl rfl) rfl rfl ?_
    exact .done (.rf rfl rfl)
  refine Ok.seq ?_
  refine Ok.seq ?_
  refine Ok.region (σ' := ⟨[(0, (L 5 e_api_Service a0)), (3, (.v (.int .i64 0)))], []⟩) ?_ ?_
  · refine .cv (VOk.asg (d := (.v (.int .i64 0))) rfl rfl) rfl rfl ?_
    exact .done (.rf rfl rfl)
  refine Ok.block ?_
  refine Ok.le (σ' := ⟨[(0, (L 5 e_api_Service a0)), (3, (.v (.int .i64 0)))], []⟩) (.rf rfl rfl) ?_
  refine Ok.loop (fun m3 σ => ∃ (x3_1 : Int), σ = ⟨[(0, (L 5 e_api_Service a0)), (3, (.v (.int .i64 x3_1)))], []⟩ ∧ watchbillref17_unique.l0 k a0 m3 x3_1 = some r) k ⟨0, rfl, H⟩ ?_
  rintro m3 σ ⟨x3_1, rfl, H⟩
  cases m3 with
  | zero => exact absurd H (by simp [watchbillref17_unique.l0])
  | succ m3 =>
    unfold watchbillref17_unique.l0 at H
    refine Ok.seq ?_
    refine Ok.seq ?_
    refine Ok.region (σ' := ⟨[(0, (L 5 e_api_Service a0)), (3, (.v (.int .i64 x3_1))), (8, (.v (.bool (decide (x3_1 < (a0.length : Int))))))], []⟩) ?_ ?_
    · refine .cv (VOk.mv (d := (.v (.int .i64 x3_1))) rfl rfl) rfl rfl ?_
      refine .cv (VOk.mv (d := (L 5 e_api_Service a0)) rfl rfl) rfl rfl ?_
      refine .cv (VOk.lenL (e := e_api_Service) (xs := a0) rfl Try.underlying30 rfl) rfl rfl ?_
      refine .cv (VOk.arith (op := .lss) (k := .i64) (a := x3_1) (b := (a0.length : Int)) rfl rfl rfl rfl) rfl rfl ?_
      exact .done (.rf rfl rfl)
    refine Ok.test (b := (decide (x3_1 < (a0.length : Int)))) rfl (fun hb15 => ?_) (fun hb15 => ?_)
    · replace H := ifT H hb15
      refine Ok.skip ?_
      refine Ok.seq ?_
      refine Ok.block ?_
      refine Ok.seq ?_
      refine Ok.seq ?_
      obtain ⟨c4, H⟩ := assertE H
      obtain ⟨t5, h6, H⟩ := bindE H
      refine Ok.region (σ' := ⟨[(0, (L 5 e_api_Service a0)), (3, (.v (.int .i64 x3_1))), (17, (.v (.bool (!t5))))], []⟩) ?_ ?_
      · refine .cv (VOk.mv (d := (L 5 e_api_Service a0)) rfl rfl) rfl rfl ?_
        refine .cv (VOk.mv (d := (.v (.int .i64 x3_1))) rfl rfl) rfl rfl ?_
        refine .cv (VOk.indexL (sz := 5) (e := e_api_Service) (xs := a0) (i := x3_1) rfl Try.underlying30 sz39 rfl rfl c4) rfl rfl ?_
        refine .cv (VOk.to (VOk.fieldFp rfl Try.underlying39 rfl sz36 rfl) rfl) rfl rfl ?_
        refine .cv (VOk.loadFp (d := (L 4 e_api_Entry ((rd a0 x3_1).List_))) rfl Try.underlying36 rfl rfl rfl) rfl rfl ?_
        refine .cg (GOk.call rfl rfl cl60 rfl (watchbillref16_Unique.ok h6) rfl) rfl rfl ?_
        refine .cv (VOk.not (b := t5) rfl rfl) rfl rfl ?_
        exact .done (.rf rfl rfl)
      refine Ok.test (b := (!t5)) rfl (fun hb14 => ?_) (fun hb14 => ?_)
      · replace H := ifT H hb14
        refine Ok.seq ?_
        refine Ok.region (σ' := ⟨[(2, (.v (.bool false)))], []⟩) ?_ ?_
        · refine .cv (VOk.asg (d := (.v (.bool false))) rfl rfl) rfl rfl ?_
          exact .done (.rf rfl rfl)
        refine Ok.ret ?_
        obtain rfl := Option.some.inj H
        exact ⟨.inl rfl, ⟨_, (.cons (.tmp rfl) .nil), rfl⟩, trivial⟩
      · replace H := ifF H hb14
        refine Ok.skip ?_
        refine Ok.seq ?_
        refine Ok.region (σ' := ⟨[(0, (L 5 e_api_Service a0)), (3, (.v (.int .i64 x3_1))), (4, (.v (.int .i64 0)))], []⟩) ?_ ?_
        · refine .cv (VOk.asg (d := (.v (.int .i64 0))) rfl rfl) rfl rfl ?_
          exact .done (.rf rfl rfl)
        refine Ok.block ?_
        refine Ok.le (σ' := ⟨[(0, (L 5 e_api_Service a0)), (3, (.v (.int .i64 x3_1))), (4, (.v (.int .i64 0)))], []⟩) (.rf rfl rfl) ?_
        refine Ok.loop (fun m9 σ => ∃ (x4_7 : Int), σ = ⟨[(0, (L 5 e_api_Service a0)), (3, (.v (.int .i64 x3_1))), (4, (.v (.int .i64 x4_7)))], []⟩ ∧ watchbillref17_unique.l1 k (watchbillref17_unique.l0 k a0 m3) a0 x3_1 m9 x4_7 = some r) k ⟨0, rfl, H⟩ ?_
        rintro m9 σ ⟨x4_7, rfl, H⟩
        cases m9 with
        | zero => exact absurd H (by simp [watchbillref17_unique.l1])
        | succ m9 =>
          unfold watchbillref17_unique.l1 at H
          refine Ok.seq ?_
          refine Ok.seq ?_
          refine Ok.region (σ' := ⟨[(0, (L 5 e_api_Service a0)), (3, (.v (.int .i64 x3_1))), (4, (.v (.int .i64 x4_7))), (20, (.v (.bool (decide (x4_7 < x3_1)))))], []⟩) ?_ ?_
          · refine .cv (VOk.mv (d := (.v (.int .i64 x4_7))) rfl rfl) rfl rfl ?_
            refine .cv (VOk.mv (d := (.v (.int .i64 x3_1))) rfl rfl) rfl rfl ?_
            refine .cv (VOk.arith (op := .lss) (k := .i64) (a := x4_7) (b := x3_1) rfl rfl rfl rfl) rfl rfl ?_
            exact .done (.rf rfl rfl)
          refine Ok.test (b := (decide (x4_7 < x3_1))) rfl (fun hb13 => ?_) (fun hb13 => ?_)
          · replace H := ifT H hb13
            refine Ok.skip ?_
            refine Ok.seq ?_
            refine Ok.block ?_
            refine Ok.seq ?_
            obtain ⟨c10, H⟩ := assertE H
            obtain ⟨c11, H⟩ := assertE H
            refine Ok.drawE (σ' := ⟨[(0, (L 5 e_api_Service a0)), (3, (.v (.int .i64 x3_1))), (4, (.v (.int .i64 x4_7))), (33, (.v (.bool (((rd a0 x4_7).URI) == ((rd a0 x3_1).URI)))))], []⟩) [⟨true, [(0, (L 5 e_api_Service a0))], (L 5 e_api_Service a0)⟩, ⟨true, [(4, (.v (.int .i64 x4_7)))], (.v (.int .i64 x4_7))⟩, ⟨true, [(23, (L 5 e_api_Service a0)), (24, (.v (.int .i64 x4_7)))], (.fp (e_api_Service (rd a0 x4_7)) 0)⟩, ⟨true, [(25, (.fp (e_api_Service (rd a0 x4_7)) 0))], (.fp (e_api_Service (rd a0 x4_7)) 0)⟩, ⟨true, [(26, (.fp (e_api_Service (rd a0 x4_7)) 0))], (S ((rd a0 x4_7).URI))⟩, ⟨true, [(0, (L 5 e_api_Service a0))], (L 5 e_api_Service a0)⟩, ⟨true, [(3, (.v (.int .i64 x3_1)))], (.v (.int .i64 x3_1))⟩, ⟨true, [(28, (L 5 e_api_Service a0)), (29, (.v (.int .i64 x3_1)))], (.fp (e_api_Service (rd a0 x3_1)) 0)⟩, ⟨true, [(30, (.fp (e_api_Service (rd a0 x3_1)) 0))], (.fp (e_api_Service (rd a0 x3_1)) 0)⟩, ⟨true, [(31, (.fp (e_api_Service (rd a0 x3_1)) 0))], (S ((rd a0 x3_1).URI))⟩, ⟨true, [(27, (S ((rd a0 x4_7).URI))), (32, (S ((rd a0 x3_1).URI)))], (.v (.bool (((rd a0 x4_7).URI) == ((rd a0 x3_1).URI))))⟩] [[], [], [0, 1], [2], [3], [], [], [5, 6], [7], [8], [4, 9]] mixed (by kernel_rfl) ?_ ?_
            · refine TxtE.cons rfl ⟨.same _, trivial⟩ rfl (VOk.g (VOk.mv (d := (L 5 e_api_Service a0)) rfl rfl)) ?_
              refine TxtE.cons rfl ⟨.same _, trivial⟩ rfl (VOk.g (VOk.mv (d := (.v (.int .i64 x4_7))) rfl rfl)) ?_
              refine TxtE.cons rfl ⟨.same _, .same _, trivial⟩ rfl (VOk.g (VOk.indexL (sz := 5) (e := e_api_Service) (xs := a0) (i := x4_7) rfl Try.underlying30 sz39 rfl rfl c10)) ?_
              refine TxtE.cons rfl ⟨.same _, trivial⟩ rfl (VOk.g (VOk.to (VOk.fieldFp rfl Try.underlying39 rfl sz9 rfl) rfl)) ?_
              refine TxtE.cons rfl ⟨.same _, trivial⟩ rfl (VOk.g (VOk.loadFp (d := (S ((rd a0 x4_7).URI))) rfl Try.underlying9 rfl rfl rfl)) ?_
              refine TxtE.cons rfl ⟨.same _, trivial⟩ rfl (VOk.g (VOk.mv (d := (L 5 e_api_Service a0)) rfl rfl)) ?_
              refine TxtE.cons rfl ⟨.same _, trivial⟩ rfl (VOk.g (VOk.mv (d := (.v (.int .i64 x3_1))) rfl rfl)) ?_
              refine TxtE.cons rfl ⟨.same _, .same _, trivial⟩ rfl (VOk.g (VOk.indexL (sz := 5) (e := e_api_Service) (xs := a0) (i := x3_1) rfl Try.underlying30 sz39 rfl rfl c11)) ?_
              refine TxtE.cons rfl ⟨.same _, trivial⟩ rfl (VOk.g (VOk.to (VOk.fieldFp rfl Try.underlying39 rfl sz9 rfl) rfl)) ?_
              refine TxtE.cons rfl ⟨.same _, trivial⟩ rfl (VOk.g (VOk.loadFp (d := (S ((rd a0 x3_1).URI))) rfl Try.underlying9 rfl rfl rfl)) ?_
              refine TxtE.cons rfl ⟨.same _, .same _, trivial⟩ rfl (VOk.g (VOk.strOp (op := .eql) (a := (rd a0 x4_7).URI) (b := (rd a0 x3_1).URI) rfl rfl rfl rfl)) ?_
              exact .done (.rf rfl rfl)
            refine Ok.test (b := (((rd a0 x4_7).URI) == ((rd a0 x3_1).URI))) rfl (fun hb12 => ?_) (fun hb12 => ?_)
            · replace H := ifT H hb12
              refine Ok.seq ?_
              refine Ok.region (σ' := ⟨[(2, (.v (.bool false)))], []⟩) ?_ ?_
              · refine .cv (VOk.asg (d := (.v (.bool false))) rfl rfl) rfl rfl ?_
                exact .done (.rf rfl rfl)
              refine Ok.ret ?_
              obtain rfl := Option.some.inj H
              exact ⟨.inl rfl, ⟨_, (.cons (.tmp rfl) .nil), rfl⟩, trivial⟩
            · replace H := ifF H hb12
              refine Ok.skip ?_
              refine Ok.region (σ' := ⟨[(0, (L 5 e_api_Service a0)), (3, (.v (.int .i64 x3_1))), (4, (.v (.int .i64 (IntKind.i64.wrap (x4_7 + 1)))))], []⟩) ?_ ?_
              · refine .cv (VOk.mv (d := (.v (.int .i64 x4_7))) rfl rfl) rfl rfl ?_
                refine .cv (VOk.arith (op := .add) (k := .i64) (a := x4_7) (b := 1) rfl rfl rfl rfl) rfl rfl ?_
                refine .cv (VOk.asg (d := (.v (.int .i64 (IntKind.i64.wrap (x4_7 + 1))))) rfl rfl) rfl rfl ?_
                exact .done (.rf rfl rfl)
              exact ⟨m9, Nat.lt_succ_self m9, (IntKind.i64.wrap (x4_7 + 1)), rfl, H⟩
          · replace H := ifF H hb13
            refine Ok.exit ?_
            refine Ok.region (σ' := ⟨[(0, (L 5 e_api_Service a0)), (3, (.v (.int .i64 (IntKind.i64.wrap (x3_1 + 1)))))], []⟩) ?_ ?_
            · refine .cv (VOk.mv (d := (.v (.int .i64 x3_1))) rfl rfl) rfl rfl ?_
              refine .cv (VOk.arith (op := .add) (k := .i64) (a := x3_1) (b := 1) rfl rfl rfl rfl) rfl rfl ?_
              refine .cv (VOk.asg (d := (.v (.int .i64 (IntKind.i64.wrap (x3_1 + 1))))) rfl rfl) rfl rfl ?_
              exact .done (.rf rfl rfl)
            exact ⟨m3, Nat.lt_succ_self m3, (IntKind.i64.wrap (x3_1 + 1)), rfl, H⟩
    · replace H := ifF H hb15
      refine Ok.exit ?_
      refine Ok.seq ?_
      refine Ok.region (σ' := ⟨[(2, (.v (.bool true)))], []⟩) ?_ ?_
      · refine .cv (VOk.asg (d := (.v (.bool true))) rfl rfl) rfl rfl ?_
        exact .done (.rf rfl rfl)
      refine Ok.ret ?_
      obtain rfl := Option.some.inj H
      exact ⟨.inl rfl, ⟨_, (.cons (.tmp rfl) .nil), rfl⟩, trivial⟩

/-! watchbill/watchbillref17.Decode: function 11 -/
def watchbillref17_Decode.l0 (k : Nat) (t7 : (List T_api_Node)) : Nat → List T_api_Service → Int → Option ((List T_api_Service) × Int)
  | 0, _, _ => none
  | m13 + 1, y5_10, x6_9 => (if (decide (x6_9 < (t7.length : Int))) = true then (if (0 : Int) ≤ x6_9 ∧ x6_9 < (t7.length : Int) then ((watchbillref17_valid k (rd t7 x6_9)).bind fun (t15 : Bool) => (if (!t15) = true then some (([] : List T_api_Service), 40) else (if (0 : Int) ≤ x6_9 ∧ x6_9 < (t7.length : Int) then ((watchbillref17_told k (rd t7 x6_9)).bind fun (t18 : T_api_Service) => (if (y5_10.length + ([t18] : List T_api_Service).length) * 88 ≤ 140737488355328 then watchbillref17_Decode.l0 k t7 m13 (y5_10 ++ ([t18] : List T_api_Service)) (IntKind.i64.wrap (x6_9 + 1)) else none)) else none))) else none) else ((watchbillref17_unique k y5_10).bind fun (t22 : Bool) => (if (!t22) = true then some (([] : List T_api_Service), 41) else some (y5_10, 0))))
def watchbillref17_Decode (k : Nat) (a0 : T_api_Node) : Option ((List T_api_Service) × Int) := ((watchbillref16_Is a0 ([117, 114, 110, 58, 105, 101, 116, 102, 58, 112, 97, 114, 97, 109, 115, 58, 120, 109, 108, 58, 110, 115, 58, 114, 108, 115, 45, 115, 101, 114, 118, 105, 99, 101, 115] : Str) ([114, 108, 115, 45, 115, 101, 114, 118, 105, 99, 101, 115] : Str)).bind fun (t1 : Bool) => (((if ((!t1) == false) = true then watchbillref16_Blank k a0 else some default)).bind fun (t4 : Bool) => (if ((!t1) || (!t4)) = true then some (([] : List T_api_Service), 40) else ((watchbillref16_Kids k a0 ([117, 114, 110, 58, 105, 101, 116, 102, 58, 112, 97, 114, 97, 109, 115, 58, 120, 109, 108, 58, 110, 115, 58, 114, 108, 115, 45, 115, 101, 114, 118, 105, 99, 101, 115] : Str)).bind fun (t7 : (List T_api_Node)) => watchbillref17_Decode.l0 k t7 k ([] : List T_api_Service) 0))))
theorem watchbillref17_Decode.ok {k : Nat} {a0 : T_api_Node} {r : (List T_api_Service) × Int} (H : watchbillref17_Decode k a0 = some r) : Vx.Fn Try.prog 11 [(.agg (e_api_Node a0))] [] (.tup [(L 5 e_api_Service r.1), (.v (.int .i64 r.2))]) [] := by
  unfold watchbillref17_Decode at H
  refine Vx.Fn.of_okR Try.func11 rfl (Nat.le_of_ble_eq_true rfl) ?_
  refine Ok.seq ?_
  refine Ok.region (σ' := ⟨[(1, (.bref 1 0))], [(1, (.box .ex (c_api_Node a0)))]⟩) ?_ ?_
  · refine OpsOk.cut1 0 (.agg [(.v (.int .i64 a0.Kind)), (S a0.Name.Space), (S a0.Name.Local), (L 3 e_api_Attr a0.Attrs), (L 6 e_api_Node a0.Kids), (S a0.Text)]) (DLe.of_eq (congrArg D.agg (e_api_Node_c _).symm)) ?_
    refine OpsOk.cons rfl (OpOk.box 1 (cells := [(.v (.int .i64 a0.Kind)), (S a0.Name.Space), (S a0.Name.Local), (L 3 e_api_Attr a0.Attrs), (L 6 e_api_Node a0.Kids), (S a0.Text)]) rfl rfl rfl rfl) ?_
    refine .cv (VOk.asg (d := (.v (.slice none 0 0))) rfl rfl) rfl rfl ?_
    refine .cv (VOk.asg (d := (.v (.int .i64 0))) rfl rfl) rfl rfl ?_
    exact .done (.rf rfl rfl)
  refine Ok.seq ?_
  refine Ok.seq ?_
  obtain ⟨t1, h2, H⟩ := bindE H
  obtain ⟨t4, h5, H⟩ := bindE H
  refine Ok.region (σ' := ⟨[(1, (.bref 1 0)), (14, (.v (.bool ((!t1) || (!t4)))))], [(1, (.box .ex (c_api_Node a0)))]⟩) ?_ ?_
  · refine .cv (VOk.to (d' := (.agg (e_api_Node a0))) (.loadBAgg rfl Try.underlying27 rfl sz27 rfl rfl rfl) (congrArg D.agg (e_api_Node_c a0).symm)) rfl rfl ?_
    refine .cg (GOk.call rfl rfl cl28 rfl (watchbillref16_Is.ok h2) rfl) rfl rfl ?_
    refine .cv (VOk.not (b := t1) rfl rfl) rfl rfl ?_
    refine .cv (VOk.mv (d := (.v (.bool (!t1)))) rfl rfl) rfl rfl ?_
    refine OpsOk.consI rfl rfl rfl (.one rfl) rfl (fun hw3 => (VOk.g (VOk.to (d' := (.agg (e_api_Node a0))) (.loadBAgg rfl Try.underlying27 rfl sz27 rfl rfl rfl) (congrArg D.agg (e_api_Node_c a0).symm)))) ?_
    refine OpsOk.consI rfl rfl rfl (.one rfl) rfl (fun hw3 => (GOk.fr (fr' := [(11, (.agg (e_api_Node a0)))]) ⟨DLe.of_eq (cT hw3).symm, trivial⟩ (GOk.call rfl rfl cl29 rfl (watchbillref16_Blank.ok (ifT h5 hw3)) rfl))) ?_
    refine OpsOk.consI rfl rfl rfl (.one rfl) rfl (fun hw3 => (GOk.fr (fr' := [(12, (.v (.bool t4)))]) ⟨DLe.of_eq (cT hw3).symm, trivial⟩ (VOk.g (VOk.not (b := t4) rfl rfl)))) ?_
    refine .cv (VOk.to (VOk.pickI (b := (!t1)) (p := true) (q := (!t4)) rfl rfl (fun hp6 => rfl) (fun hp6 => (cT (f_beq hp6)))) (pickOr (!t1) (!t4))) rfl rfl ?_
    exact .done (.rf rfl rfl)
  refine Ok.test (b := ((!t1) || (!t4))) rfl (fun hb26 => ?_) (fun hb26 => ?_)
  · replace H := ifT H hb26
    refine Ok.seq ?_
    refine Ok.region (σ' := ⟨[(2, (.v (.slice none 0 0))), (3, (.v (.int .i64 40)))], []⟩) ?_ ?_
    · refine .cv (VOk.asg (d := (.v (.slice none 0 0))) rfl rfl) rfl rfl ?_
      refine .cv (VOk.asg (d := (.v (.int .i64 40))) rfl rfl) rfl rfl ?_
      exact .done (.rf rfl rfl)
    refine Ok.le (σ' := ⟨[(2, (L 5 e_api_Service ([] : List T_api_Service))), (3, (.v (.int .i64 40)))], []⟩) (.mk ⟨.nil _, .same _, trivial⟩ trivial) ?_
    refine Ok.ret ?_
    obtain rfl := Option.some.inj H
    exact ⟨.inl rfl, ⟨_, (.cons (.tmp rfl) (.cons (.tmp rfl) .nil)), rfl⟩, trivial⟩
  · replace H := ifF H hb26
    refine Ok.skip ?_
    refine Ok.seq ?_
    obtain ⟨t7, h8, H⟩ := bindE H
    refine Ok.region (σ' := ⟨[(4, (L 6 e_api_Node t7))], []⟩) ?_ ?_
    · refine .cv (VOk.to (d' := (.agg (e_api_Node a0))) (.loadBAgg rfl Try.underlying27 rfl sz27 rfl rfl rfl) (congrArg D.agg (e_api_Node_c a0).symm)) rfl rfl ?_
      refine .cg (GOk.call rfl rfl cl30 rfl (watchbillref16_Kids.ok h8) rfl) rfl rfl ?_
      refine .cv (VOk.asg (d := (L 6 e_api_Node t7)) rfl rfl) rfl rfl ?_
      exact .done (.rf rfl rfl)
    refine Ok.seq ?_
    refine Ok.region (σ' := ⟨[(4, (L 6 e_api_Node t7)), (5, (.sref 5))], [(5, (.rows true 39 5 (([] : List T_api_Service).map e_api_Service)))]⟩) ?_ ?_
    · refine OpsOk.cons rfl (.nilT 5 39 5 (.inl rfl) rfl rfl) ?_
      exact .done (.rf rfl rfl)
    refine Ok.seq ?_
    refine Ok.seq ?_
    refine Ok.region (σ' := ⟨[(4, (L 6 e_api_Node t7)), (5, (.sref 5)), (6, (.v (.int .i64 0)))], [(5, (.rows true 39 5 (([] : List T_api_Service).map e_api_Service)))]⟩) ?_ ?_
    · refine .cv (VOk.asg (d := (.v (.int .i64 0))) rfl rfl) rfl rfl ?_
      exact .done (.rf rfl rfl)
    refine Ok.block ?_
    refine Ok.le (σ' := ⟨[(4, (L 6 e_api_Node t7)), (5, (.sref 5)), (6, (.v (.int .i64 0)))], [(5, (.rows true 39 5 (([] : List T_api_Service).map e_api_Service)))]⟩) (.rf rfl rfl) ?_
    refine Ok.loop (fun m13 σ => ∃ (y5_10 : List T_api_Service) (x6_9 : Int), σ = ⟨[(4, (L 6 e_api_Node t7)), (5, (.sref 5)), (6, (.v (.int .i64 x6_9)))], [(5, (.rows true 39 5 (y5_10.map e_api_Service)))]⟩ ∧ watchbillref17_Decode.l0 k t7 m13 y5_10 x6_9 = some r) k ⟨([] : List T_api_Service), 0, rfl, H⟩ ?_
    rintro m13 σ ⟨y5_10, x6_9, rfl, H⟩
    cases m13 with
    | zero => exact absurd H (by simp [watchbillref17_Decode.l0])
    | succ m13 =>
      unfold watchbillref17_Decode.l0 at H
      refine Ok.seq ?_
      refine Ok.seq ?_
      refine Ok.region (σ' := ⟨[(4, (L 6 e_api_Node t7)), (5, (.sref 5)), (6, (.v (.int .i64 x6_9))), (20, (.v (.bool (decide (x6_9 < (t7.length : Int))))))], [(5, (.rows true 39 5 (y5_10.map e_api_Service)))]⟩) ?_ ?_
      · refine .cv (VOk.mv (d := (.v (.int .i64 x6_9))) rfl rfl) rfl rfl ?_
        refine .cv (VOk.mv (d := (L 6 e_api_Node t7)) rfl rfl) rfl rfl ?_
        refine .cv (VOk.lenL (e := e_api_Node) (xs := t7) rfl Try.underlying25 rfl) rfl rfl ?_
        refine .cv (VOk.arith (op := .lss) (k := .i64) (a := x6_9) (b := (t7.length : Int)) rfl rfl rfl rfl) rfl rfl ?_
        exact .done (.rf rfl rfl)
      refine Ok.test (b := (decide (x6_9 < (t7.length : Int)))) rfl (fun hb25 => ?_) (fun hb25 => ?_)
      · replace H := ifT H hb25
        refine Ok.skip ?_
        refine Ok.seq ?_
        refine Ok.block ?_
        refine Ok.seq ?_
        refine Ok.seq ?_
        obtain ⟨c14, H⟩ := assertE H
        obtain ⟨t15, h16, H⟩ := bindE H
        refine Ok.region (σ' := ⟨[(4, (L 6 e_api_Node t7)), (5, (.sref 5)), (6, (.v (.int .i64 x6_9))), (28, (.v (.bool (!t15))))], [(5, (.rows true 39 5 (y5_10.map e_api_Service)))]⟩) ?_ ?_
        · refine .cv (VOk.mv (d := (L 6 e_api_Node t7)) rfl rfl) rfl rfl ?_
          refine .cv (VOk.mv (d := (.v (.int .i64 x6_9))) rfl rfl) rfl rfl ?_
          refine .cv (VOk.indexL (sz := 6) (e := e_api_Node) (xs := t7) (i := x6_9) rfl Try.underlying25 sz27 rfl rfl c14) rfl rfl ?_
          refine .cv (VOk.to (d' := (.agg (e_api_Node (rd t7 x6_9)))) (.loadFpAgg rfl Try.underlying27 rfl sz27 rfl rfl) rfl) rfl rfl ?_
          refine .cg (GOk.call rfl rfl cl31 rfl (watchbillref17_valid.ok h16) rfl) rfl rfl ?_
          refine .cv (VOk.not (b := t15) rfl rfl) rfl rfl ?_
          exact .done (.rf rfl rfl)
        refine Ok.test (b := (!t15)) rfl (fun hb21 => ?_) (fun hb21 => ?_)
        · replace H := ifT H hb21
          refine Ok.seq ?_
          refine Ok.region (σ' := ⟨[(2, (.v (.slice none 0 0))), (3, (.v (.int .i64 40)))], []⟩) ?_ ?_
          · refine .cv (VOk.asg (d := (.v (.slice none 0 0))) rfl rfl) rfl rfl ?_
            refine .cv (VOk.asg (d := (.v (.int .i64 40))) rfl rfl) rfl rfl ?_
            exact .done (.rf rfl rfl)
          refine Ok.le (σ' := ⟨[(2, (L 5 e_api_Service ([] : List T_api_Service))), (3, (.v (.int .i64 40)))], []⟩) (.mk ⟨.nil _, .same _, trivial⟩ trivial) ?_
          refine Ok.ret ?_
          obtain rfl := Option.some.inj H
          exact ⟨.inl rfl, ⟨_, (.cons (.tmp rfl) (.cons (.tmp rfl) .nil)), rfl⟩, trivial⟩
        · replace H := ifF H hb21
          refine Ok.skip ?_
          obtain ⟨c17, H⟩ := assertE H
          obtain ⟨t18, h19, H⟩ := bindE H
          obtain ⟨c20, H⟩ := assertE H
          refine Ok.region (σ' := ⟨[(4, (L 6 e_api_Node t7)), (5, (.sref 5)), (6, (.v (.int .i64 x6_9)))], [(5, (.rows true 39 5 ((y5_10 ++ ([t18] : List T_api_Service)).map e_api_Service)))]⟩) ?_ ?_
          · refine .cv (VOk.mv (d := (.sref 5)) rfl rfl) rfl rfl ?_
            refine .cv (VOk.mv (d := (L 6 e_api_Node t7)) rfl rfl) rfl rfl ?_
            refine .cv (VOk.mv (d := (.v (.int .i64 x6_9))) rfl rfl) rfl rfl ?_
            refine .cv (VOk.indexL (sz := 6) (e := e_api_Node) (xs := t7) (i := x6_9) rfl Try.underlying25 sz27 rfl rfl c17) rfl rfl ?_
            refine .cv (VOk.to (d' := (.agg (e_api_Node (rd t7 x6_9)))) (.loadFpAgg rfl Try.underlying27 rfl sz27 rfl rfl) rfl) rfl rfl ?_
            refine .cg (GOk.call rfl rfl cl32 rfl (watchbillref17_told.ok h19) rfl) rfl rfl ?_
            refine .cg (GOk.to (d' := (L 5 e_api_Service ([t18] : List T_api_Service))) (GOk.lit rfl Try.underlying30 sz39 zs39 rfl rfl rfl rfl) rfl) rfl rfl ?_
            refine OpsOk.cons rfl (OpOk.appendL (e := e_api_Service) (xs := y5_10) (ys := ([t18] : List T_api_Service)) rfl Try.underlying30 elt39 rfl rfl rfl c20 rfl) ?_
            refine .cv (VOk.asg (d := (.sref 5)) rfl rfl) rfl rfl ?_
            exact .done (.rf rfl rfl)
          refine Ok.region (σ' := ⟨[(4, (L 6 e_api_Node t7)), (5, (.sref 5)), (6, (.v (.int .i64 (IntKind.i64.wrap (x6_9 + 1)))))], [(5, (.rows true 39 5 ((y5_10 ++ ([t18] : List T_api_Service)).map e_api_Service)))]⟩) ?_ ?_
          · refine .cv (VOk.mv (d := (.v (.int .i64 x6_9))) rfl rfl) rfl rfl ?_
            refine .cv (VOk.arith (op := .add) (k := .i64) (a := x6_9) (b := 1) rfl rfl rfl rfl) rfl rfl ?_
            refine .cv (VOk.asg (d := (.v (.int .i64 (IntKind.i64.wrap (x6_9 + 1))))) rfl rfl) rfl rfl ?_
            exact .done (.rf rfl rfl)
          exact ⟨m13, Nat.lt_succ_self m13, (y5_10 ++ ([t18] : List T_api_Service)), (IntKind.i64.wrap (x6_9 + 1)), rfl, H⟩
      · replace H := ifF H hb25
        refine Ok.exit ?_
        refine Ok.seq ?_
        refine Ok.seq ?_
        obtain ⟨t22, h23, H⟩ := bindE H
        refine Ok.region (σ' := ⟨[(5, (.sref 5)), (39, (.v (.bool (!t22))))], [(5, (.rows true 39 5 (y5_10.map e_api_Service)))]⟩) ?_ ?_
        · refine .cv (VOk.mv (d := (.sref 5)) rfl rfl) rfl rfl ?_
          refine .cg (GOk.callV rfl rfl cl33 rfl (watchbillref17_unique.ok h23) rfl) rfl rfl ?_
          refine .cv (VOk.not (b := t22) rfl rfl) rfl rfl ?_
          exact .done (.rf rfl rfl)
        refine Ok.test (b := (!t22)) rfl (fun hb24 => ?_) (fun hb24 => ?_)
        · replace H := ifT H hb24
          refine Ok.seq ?_
          refine Ok.region (σ' := ⟨[(2, (.v (.slice none 0 0))), (3, (.v (.int .i64 41)))], []⟩) ?_ ?_
          · refine .cv (VOk.asg (d := (.v (.slice none 0 0))) rfl rfl) rfl rfl ?_
            refine .cv (VOk.asg (d := (.v (.int .i64 41))) rfl rfl) rfl rfl ?_
            exact .done (.rf rfl rfl)
          refine Ok.le (σ' := ⟨[(2, (L 5 e_api_Service ([] : List T_api_Service))), (3, (.v (.int .i64 41)))], []⟩) (.mk ⟨.nil _, .same _, trivial⟩ trivial) ?_
          refine Ok.ret ?_
          obtain rfl := Option.some.inj H
          exact ⟨.inl rfl, ⟨_, (.cons (.tmp rfl) (.cons (.tmp rfl) .nil)), rfl⟩, trivial⟩
        · replace H := ifF H hb24
          refine Ok.skip ?_
          refine Ok.seq ?_
          refine Ok.region (σ' := ⟨[(2, (.sref 5)), (3, (.v (.int .i64 0)))], [(5, (.rows true 39 5 (y5_10.map e_api_Service)))]⟩) ?_ ?_
          · refine .cv (VOk.mv (d := (.sref 5)) rfl rfl) rfl rfl ?_
            refine .cv (VOk.asg (d := (.sref 5)) rfl rfl) rfl rfl ?_
            refine .cv (VOk.asg (d := (.v (.int .i64 0))) rfl rfl) rfl rfl ?_
            exact .done (.rf rfl rfl)
          refine Ok.frzL 5 (e := e_api_Service) (xs := y5_10) rfl ?_
          refine Ok.ret ?_
          obtain rfl := Option.some.inj H
          exact ⟨.inl rfl, ⟨_, (.cons (.tmp rfl) (.cons (.tmp rfl) .nil)), rfl⟩, trivial⟩

/-! watchbill/watchbillref17.Find: function 13 -/
def watchbillref17_Find.l0 (k : Nat) (a0 : List T_api_Service) (a1 : Str) : Nat → Str → List T_api_Entry → Bool → Str → List Str → Int → Option (T_api_Service × Bool)
  | 0, _, _, _, _, _, _ => none
  | m13 + 1, y4_0_2, y4_1_3, y4_2_4, y4_3_5, y4_4_6, x6_1 => (if (decide (x6_1 < (a0.length : Int))) = true then (if (0 : Int) ≤ x6_1 ∧ x6_1 < (a0.length : Int) then (if (((rd a0 x6_1).URI) == a1) = true then (if (0 : Int) ≤ x6_1 ∧ x6_1 < (a0.length : Int) then some ((rd a0 x6_1), true) else none) else watchbillref17_Find.l0 k a0 a1 m13 y4_0_2 y4_1_3 y4_2_4 y4_3_5 y4_4_6 (IntKind.i64.wrap (x6_1 + 1))) else none) else some ((T_api_Service.mk ([] : Str) ([] : List T_api_Entry) false ([] : Str) ([] : List Str)), false))
def watchbillref17_Find (k : Nat) (a0 : List T_api_Service) (a1 : Str) : Option (T_api_Service × Bool) := watchbillref17_Find.l0 k a0 a1 k ([] : Str) ([] : List T_api_Entry) false ([] : Str) ([] : List Str) 0
theorem watchbillref17_Find.ok {k : Nat} {a0 : List T_api_Service} {a1 : Str} {r : T_api_Service × Bool} (H : watchbillref17_Find k a0 a1 = some r) : Vx.Fn Try.prog 13 [(L 5 e_api_Service a0), (S a1)] [] (.tup [(.agg (e_api_Service r.1)), (.v (.bool r.2))]) [] := by
  unfold watchbillref17_Find at H
  refine Vx.Fn.of_okR Try.func13 rfl (Nat.le_of_ble_eq_true rfl) ?_
  refine Ok.seq ?_
  refine Ok.region (σ' := ⟨[(0, (L 5 e_api_Service a0)), (1, (S a1)), (4, (.bref 4 0))], [(4, (.box .ex [(S ([] : Str)), (L 4 e_api_Entry ([] : List T_api_Entry)), (.v (.bool false)), (S ([] : Str)), (L 1 eS ([] : List Str))]))]⟩) ?_ ?_
  · refine OpsOk.cons rfl (OpOk.alloc 4 [none, some 4, none, none, some 1] rfl zo39 rfl rfl) ?_
    refine .cv (VOk.asg (d := (.v (.bool false))) rfl rfl) rfl rfl ?_
    exact .done (.rf rfl rfl)
  refine Ok.seq ?_
  refine Ok.seq ?_
  refine Ok.region (σ' := ⟨[(0, (L 5 e_api_Service a0)), (1, (S a1)), (4, (.bref 4 0)), (6, (.v (.int .i64 0)))], [(4, (.box .ex [(S ([] : Str)), (L 4 e_api_Entry ([] : List T_api_Entry)), (.v (.bool false)), (S ([] : Str)), (L 1 eS ([] : List Str))]))]⟩) ?_ ?_
  · refine .cv (VOk.asg (d := (.v (.int .i64 0))) rfl rfl) rfl rfl ?_
    exact .done (.rf rfl rfl)
  refine Ok.block ?_
  refine Ok.le (σ' := ⟨[(0, (L 5 e_api_Service a0)), (1, (S a1)), (4, (.bref 4 0)), (6, (.v (.int .i64 0)))], [(4, (.box .ex [(S ([] : Str)), (L 4 e_api_Entry ([] : List T_api_Entry)), (.v (.bool false)), (S ([] : Str)), (L 1 eS ([] : List Str))]))]⟩) (.rf rfl rfl) ?_
  refine Ok.loop (fun m13 σ => ∃ (y4_0_2 : Str) (y4_1_3 : List T_api_Entry) (y4_2_4 : Bool) (y4_3_5 : Str) (y4_4_6 : List Str) (x6_1 : Int), σ = ⟨[(0, (L 5 e_api_Service a0)), (1, (S a1)), (4, (.bref 4 0)), (6, (.v (.int .i64 x6_1)))], [(4, (.box .ex [(S y4_0_2), (L 4 e_api_Entry y4_1_3), (.v (.bool y4_2_4)), (S y4_3_5), (L 1 eS y4_4_6)]))]⟩ ∧ watchbillref17_Find.l0 k a0 a1 m13 y4_0_2 y4_1_3 y4_2_4 y4_3_5 y4_4_6 x6_1 = some r) k ⟨([] : Str), ([] : List T_api_Entry), false, ([] : Str), ([] : List Str), 0, rfl, H⟩ ?_
  rintro m13 σ ⟨y4_0_2, y4_1_3, y4_2_4, y4_3_5, y4_4_6, x6_1, rfl, H⟩
  cases m13 with
  | zero => exact absurd H (by simp [watchbillref17_Find.l0])
  | succ m13 =>
    unfold watchbillref17_Find.l0 at H
    refine Ok.seq ?_
    refine Ok.seq ?_
    refine Ok.region (σ' := ⟨[(0, (L 5 e_api_Service a0)), (1, (S a1)), (4, (.bref 4 0)), (6, (.v (.int .i64 x6_1))), (10, (.v (.bool (decide (x6_1 < (a0.length : Int))))))], [(4, (.box .ex [(S y4_0_2), (L 4 e_api_Entry y4_1_3), (.v (.bool y4_2_4)), (S y4_3_5), (L 1 eS y4_4_6)]))]⟩) ?_ ?_
    · refine .cv (VOk.mv (d := (.v (.int .i64 x6_1))) rfl rfl) rfl rfl ?_
      refine .cv (VOk.mv (d := (L 5 e_api_Service a0)) rfl rfl) rfl rfl ?_
      refine .cv (VOk.lenL (e := e_api_Service) (xs := a0) rfl Try.underlying30 rfl) rfl rfl ?_
      refine .cv (VOk.arith (op := .lss) (k := .i64) (a := x6_1) (b := (a0.length : Int)) rfl rfl rfl rfl) rfl rfl ?_
      exact .done (.rf rfl rfl)
    refine Ok.test (b := (decide (x6_1 < (a0.length : Int)))) rfl (fun hb17 => ?_) (fun hb17 => ?_)
    · replace H := ifT H hb17
      refine Ok.skip ?_
      refine Ok.seq ?_
      refine Ok.block ?_
      refine Ok.seq ?_
      obtain ⟨c14, H⟩ := assertE H
      refine Ok.region (σ' := ⟨[(0, (L 5 e_api_Service a0)), (1, (S a1)), (4, (.bref 4 0)), (6, (.v (.int .i64 x6_1))), (19, (.v (.bool (((rd a0 x6_1).URI) == a1))))], [(4, (.box .ex [(S y4_0_2), (L 4 e_api_Entry y4_1_3), (.v (.bool y4_2_4)), (S y4_3_5), (L 1 eS y4_4_6)]))]⟩) ?_ ?_
      · refine .cv (VOk.mv (d := (L 5 e_api_Service a0)) rfl rfl) rfl rfl ?_
        refine .cv (VOk.mv (d := (.v (.int .i64 x6_1))) rfl rfl) rfl rfl ?_
        refine .cv (VOk.indexL (sz := 5) (e := e_api_Service) (xs := a0) (i := x6_1) rfl Try.underlying30 sz39 rfl rfl c14) rfl rfl ?_
        refine .cv (VOk.to (VOk.fieldFp rfl Try.underlying39 rfl sz9 rfl) rfl) rfl rfl ?_
        refine .cv (VOk.loadFp (d := (S ((rd a0 x6_1).URI))) rfl Try.underlying9 rfl rfl rfl) rfl rfl ?_
        refine .cv (VOk.mv (d := (S a1)) rfl rfl) rfl rfl ?_
        refine .cv (VOk.strOp (op := .eql) (a := (rd a0 x6_1).URI) (b := a1) rfl rfl rfl rfl) rfl rfl ?_
        exact .done (.rf rfl rfl)
      refine Ok.test (b := (((rd a0 x6_1).URI) == a1)) rfl (fun hb16 => ?_) (fun hb16 => ?_)
      · replace H := ifT H hb16
        refine Ok.seq ?_
        obtain ⟨c15, H⟩ := assertE H
        refine Ok.region (σ' := ⟨[(4, (.bref 4 0)), (5, (.v (.bool true)))], [(4, (.box .ex (c_api_Service (rd a0 x6_1))))]⟩) ?_ ?_
        · refine .cv (VOk.mv (d := (L 5 e_api_Service a0)) rfl rfl) rfl rfl ?_
          refine .cv (VOk.mv (d := (.v (.int .i64 x6_1))) rfl rfl) rfl rfl ?_
          refine .cv (VOk.indexL (sz := 5) (e := e_api_Service) (xs := a0) (i := x6_1) rfl Try.underlying30 sz39 rfl rfl c15) rfl rfl ?_
          refine .cv (VOk.to (d' := (.agg (e_api_Service (rd a0 x6_1)))) (.loadFpAgg rfl Try.underlying39 rfl sz39 rfl rfl) rfl) rfl rfl ?_
          refine OpsOk.cons rfl (OpOk.to (σ2 := St.put ⟨_, (4, (.box .ex (c_api_Service (rd a0 x6_1)))) :: _⟩ _ .junk) (.storeB rfl sz39 rfl rfl rfl rfl rfl rfl) rfl) ?_
          refine .cv (VOk.asg (d := (.v (.bool true))) rfl rfl) rfl rfl ?_
          exact .done (.rf rfl rfl)
        refine Ok.ret ?_
        obtain rfl := Option.some.inj H
        exact ⟨.inl rfl, ⟨_, (.cons (.cell (VOk.to (d' := (.agg (e_api_Service (rd a0 x6_1)))) (.loadBAgg rfl Try.underlying39 rfl sz39 rfl rfl rfl) rfl)) (.cons (.tmp rfl) .nil)), rfl⟩, trivial⟩
      · replace H := ifF H hb16
        refine Ok.skip ?_
        refine Ok.region (σ' := ⟨[(0, (L 5 e_api_Service a0)), (1, (S a1)), (4, (.bref 4 0)), (6, (.v (.int .i64 (IntKind.i64.wrap (x6_1 + 1)))))], [(4, (.box .ex [(S y4_0_2), (L 4 e_api_Entry y4_1_3), (.v (.bool y4_2_4)), (S y4_3_5), (L 1 eS y4_4_6)]))]⟩) ?_ ?_
        · refine .cv (VOk.mv (d := (.v (.int .i64 x6_1))) rfl rfl) rfl rfl ?_
          refine .cv (VOk.arith (op := .add) (k := .i64) (a := x6_1) (b := 1) rfl rfl rfl rfl) rfl rfl ?_
          refine .cv (VOk.asg (d := (.v (.int .i64 (IntKind.i64.wrap (x6_1 + 1))))) rfl rfl) rfl rfl ?_
          exact .done (.rf rfl rfl)
        exact ⟨m13, Nat.lt_succ_self m13, y4_0_2, y4_1_3, y4_2_4, y4_3_5, y4_4_6, (IntKind.i64.wrap (x6_1 + 1)), rfl, H⟩
    · replace H := ifF H hb17
      refine Ok.exit ?_
      refine Ok.seq ?_
      refine Ok.region (σ' := ⟨[(4, (.bref 4 0)), (5, (.v (.bool false)))], [(4, (.box .ex (c_api_Service (T_api_Service.mk ([] : Str) ([] : List T_api_Entry) false ([] : Str) ([] : List Str)))))]⟩) ?_ ?_
      · refine .cv (VOk.to (d' := (.agg (e_api_Service (T_api_Service.mk ([] : Str) ([] : List T_api_Entry) false ([] : Str) ([] : List Str))))) (.build [none, some 4, none, none, some 1] [(0, 1), (1, 1), (2, 1), (3, 1), (4, 1)] rfl Try.underlying39 (fa39 Try.underlying39) zo39 rfl rfl) rfl) rfl rfl ?_
        refine OpsOk.cons rfl (OpOk.to (σ2 := St.put ⟨_, (4, (.box .ex (c_api_Service (T_api_Service.mk ([] : Str) ([] : List T_api_Entry) false ([] : Str) ([] : List Str))))) :: _⟩ _ .junk) (.storeB rfl sz39 rfl rfl rfl rfl rfl rfl) rfl) ?_
        refine .cv (VOk.asg (d := (.v (.bool false))) rfl rfl) rfl rfl ?_
        exact .done (.rf rfl rfl)
      refine Ok.ret ?_
      obtain rfl := Option.some.inj H
      exact ⟨.inl rfl, ⟨_, (.cons (.cell (VOk.to (d' := (.agg (e_api_Service (T_api_Service.mk ([] : Str) ([] : List T_api_Entry) false ([] : Str) ([] : List Str))))) (.loadBAgg rfl Try.underlying39 rfl sz39 rfl rfl rfl) rfl)) (.cons (.tmp rfl) .nil)), rfl⟩, trivial⟩

/-! watchbill/watchbillref16.One: function 61 -/
def watchbillref16_One (self : List T_api_Entry → List T_api_Entry → Option Bool) (a0 : T_api_Entry) (a1 : T_api_Entry) : Option Bool := (((if ((((a0.Kind == a1.Kind) && (a0.URI == a1.URI)) && (a0.Name == a1.Name)) == true) = true then self a0.List_ a1.List_ else some default)).bind fun (t6 : Bool) => some ((((a0.Kind == a1.Kind) && (a0.URI == a1.URI)) && (a0.Name == a1.Name)) && t6))
theorem watchbillref16_One.ok {self : List T_api_Entry → List T_api_Entry → Option Bool} (ihF : ∀ {a0 : List T_api_Entry} {a1 : List T_api_Entry} {r : Bool}, self a0 a1 = some r → Vx.Fn Try.prog 34 [(L 4 e_api_Entry a0), (L 4 e_api_Entry a1)] [] (.v (.bool r)) []) {a0 : T_api_Entry} {a1 : T_api_Entry} {r : Bool} (H : watchbillref16_One self a0 a1 = some r) : Vx.Fn Try.prog 61 [(.agg (e_api_Entry a0)), (.agg (e_api_Entry a1))] [] (.v (.bool r)) [] := by
  unfold watchbillref16_One at H
  refine Vx.Fn.of_okR Try.func61 rfl (Nat.le_of_ble_eq_true rfl) ?_
  refine Ok.seq ?_
  refine Ok.region (σ' := ⟨[(2, (.bref 2 0)), (3, (.bref 3 0))], [(2, (.box .ex (c_api_Entry a0))), (3, (.box .ex (c_api_Entry a1)))]⟩) ?_ ?_
  · refine OpsOk.cut1 0 (.agg [(.v (.int .i64 a0.Kind)), (S a0.URI), (S a0.Name), (L 4 e_api_Entry a0.List_)]) (DLe.of_eq (congrArg D.agg (e_api_Entry_c _).symm)) ?_
    refine OpsOk.cons rfl (OpOk.box 2 (cells := [(.v (.int .i64 a0.Kind)), (S a0.URI), (S a0.Name), (L 4 e_api_Entry a0.List_)]) rfl rfl rfl rfl) ?_
    refine OpsOk.cut1 1 (.agg [(.v (.int .i64 a1.Kind)), (S a1.URI), (S a1.Name), (L 4 e_api_Entry a1.List_)]) (DLe.of_eq (congrArg D.agg (e_api_Entry_c _).symm)) ?_
    refine OpsOk.cons rfl (OpOk.box 3 (cells := [(.v (.int .i64 a1.Kind)), (S a1.URI), (S a1.Name), (L 4 e_api_Entry a1.List_)]) rfl rfl rfl rfl) ?_
    refine .cv (VOk.asg (d := (.v (.bool false))) rfl rfl) rfl rfl ?_
    exact .done (.rf rfl rfl)
  refine Ok.seq ?_
  obtain ⟨t6, h7, H⟩ := bindE H
  refine Ok.region (σ' := ⟨[(4, (.v (.bool ((((a0.Kind == a1.Kind) && (a0.URI == a1.URI)) && (a0.Name == a1.Name)) && t6))))], []⟩) ?_ ?_
  · refine .cv (VOk.to (VOk.fieldB rfl Try.underlying56 rfl sz3 rfl rfl) rfl) rfl rfl ?_
    refine .cv (VOk.loadB (d := (.v (.int .i64 a0.Kind))) rfl Try.underlying3 rfl rfl rfl rfl) rfl rfl ?_
    refine .cv (VOk.to (VOk.fieldB rfl Try.underlying56 rfl sz3 rfl rfl) rfl) rfl rfl ?_
    refine .cv (VOk.loadB (d := (.v (.int .i64 a1.Kind))) rfl Try.underlying3 rfl rfl rfl rfl) rfl rfl ?_
    refine .cv (VOk.arith (op := .eql) (k := .i64) (a := a0.Kind) (b := a1.Kind) rfl rfl rfl rfl) rfl rfl ?_
    refine .cv (VOk.mv (d := (.v (.bool (a0.Kind == a1.Kind)))) rfl rfl) rfl rfl ?_
    refine OpsOk.consI rfl rfl rfl (.one rfl) rfl (fun hw1 => (VOk.g (VOk.to (VOk.fieldB rfl Try.underlying56 rfl sz9 rfl rfl) rfl))) ?_
    refine OpsOk.consI rfl rfl rfl (.one rfl) rfl (fun hw1 => (GOk.fr (fr' := [(11, (.bref 2 1))]) ⟨DLe.of_eq (cT hw1).symm, trivial⟩ (VOk.g (VOk.loadB (d := (S a0.URI)) rfl Try.underlying9 rfl rfl rfl rfl)))) ?_
    refine OpsOk.consI rfl rfl rfl (.one rfl) rfl (fun hw1 => (VOk.g (VOk.to (VOk.fieldB rfl Try.underlying56 rfl sz9 rfl rfl) rfl))) ?_
    refine OpsOk.consI rfl rfl rfl (.one rfl) rfl (fun hw1 => (GOk.fr (fr' := [(13, (.bref 3 1))]) ⟨DLe.of_eq (cT hw1).symm, trivial⟩ (VOk.g (VOk.loadB (d := (S a1.URI)) rfl Try.underlying9 rfl rfl rfl rfl)))) ?_
    refine OpsOk.consI rfl rfl rfl (.one rfl) rfl (fun hw1 => (GOk.fr (fr' := [(12, (S a0.URI)), (14, (S a1.URI))]) ⟨DLe.of_eq (cT hw1).symm, DLe.of_eq (cT hw1).symm, trivial⟩ (VOk.g (VOk.strOp (op := .eql) (a := a0.URI) (b := a1.URI) rfl rfl rfl rfl)))) ?_
    refine .cv (VOk.to (VOk.pickI (b := (a0.Kind == a1.Kind)) (p := (a0.URI == a1.URI)) (q := false) rfl rfl (fun hp2 => (cT (t_beq hp2))) (fun hp2 => rfl)) (pickAnd (a0.Kind == a1.Kind) (a0.URI == a1.URI))) rfl rfl ?_
    refine .cv (VOk.mv (d := (.v (.bool ((a0.Kind == a1.Kind) && (a0.URI == a1.URI))))) rfl rfl) rfl rfl ?_
    refine OpsOk.consI rfl rfl rfl (.one rfl) rfl (fun hw3 => (VOk.g (VOk.to (VOk.fieldB rfl Try.underlying56 rfl sz9 rfl rfl) rfl))) ?_
    refine OpsOk.consI rfl rfl rfl (.one rfl) rfl (fun hw3 => (GOk.fr (fr' := [(18, (.bref 2 2))]) ⟨DLe.of_eq (cT hw3).symm, trivial⟩ (VOk.g (VOk.loadB (d := (S a0.Name)) rfl Try.underlying9 rfl rfl rfl rfl)))) ?_
    refine OpsOk.consI rfl rfl rfl (.one rfl) rfl (fun hw3 => (VOk.g (VOk.to (VOk.fieldB rfl Try.underlying56 rfl sz9 rfl rfl) rfl))) ?_
    refine OpsOk.consI rfl rfl rfl (.one rfl) rfl (fun hw3 => (GOk.fr (fr' := [(20, (.bref 3 2))]) ⟨DLe.of_eq (cT hw3).symm, trivial⟩ (VOk.g (VOk.loadB (d := (S a1.Name)) rfl Try.underlying9 rfl rfl rfl rfl)))) ?_
    refine OpsOk.consI rfl rfl rfl (.one rfl) rfl (fun hw3 => (GOk.fr (fr' := [(19, (S a0.Name)), (21, (S a1.Name))]) ⟨DLe.of_eq (cT hw3).symm, DLe.of_eq (cT hw3).symm, trivial⟩ (VOk.g (VOk.strOp (op := .eql) (a := a0.Name) (b := a1.Name) rfl rfl rfl rfl)))) ?_
    refine .cv (VOk.to (VOk.pickI (b := ((a0.Kind == a1.Kind) && (a0.URI == a1.URI))) (p := (a0.Name == a1.Name)) (q := false) rfl rfl (fun hp4 => (cT (t_beq hp4))) (fun hp4 => rfl)) (pickAnd ((a0.Kind == a1.Kind) && (a0.URI == a1.URI)) (a0.Name == a1.Name))) rfl rfl ?_
    refine .cv (VOk.mv (d := (.v (.bool (((a0.Kind == a1.Kind) && (a0.URI == a1.URI)) && (a0.Name == a1.Name))))) rfl rfl) rfl rfl ?_
    refine OpsOk.consI rfl rfl rfl (.one rfl) rfl (fun hw5 => (VOk.g (VOk.to (VOk.fieldB rfl Try.underlying56 rfl sz36 rfl rfl) rfl))) ?_
    refine OpsOk.consI rfl rfl rfl (.one rfl) rfl (fun hw5 => (GOk.fr (fr' := [(25, (.bref 2 3))]) ⟨DLe.of_eq (cT hw5).symm, trivial⟩ (VOk.g (VOk.loadB (d := (L 4 e_api_Entry a0.List_)) rfl Try.underlying36 rfl rfl rfl rfl)))) ?_
    refine OpsOk.consI rfl rfl rfl (.one rfl) rfl (fun hw5 => (VOk.g (VOk.to (VOk.fieldB rfl Try.underlying56 rfl sz36 rfl rfl) rfl))) ?_
    refine OpsOk.consI rfl rfl rfl (.one rfl) rfl (fun hw5 => (GOk.fr (fr' := [(27, (.bref 3 3))]) ⟨DLe.of_eq (cT hw5).symm, trivial⟩ (VOk.g (VOk.loadB (d := (L 4 e_api_Entry a1.List_)) rfl Try.underlying36 rfl rfl rfl rfl)))) ?_
    refine OpsOk.consI rfl rfl rfl (.one rfl) rfl (fun hw5 => (GOk.fr (fr' := [(26, (L 4 e_api_Entry a0.List_)), (28, (L 4 e_api_Entry a1.List_))]) ⟨DLe.of_eq (cT hw5).symm, DLe.of_eq (cT hw5).symm, trivial⟩ (GOk.call rfl rfl cl34 rfl (@ihF _ _ _ (ifT h7 hw5)) rfl))) ?_
    refine .cv (VOk.to (VOk.pickI (b := (((a0.Kind == a1.Kind) && (a0.URI == a1.URI)) && (a0.Name == a1.Name))) (p := t6) (q := false) rfl rfl (fun hp8 => (cT (t_beq hp8))) (fun hp8 => rfl)) (pickAnd (((a0.Kind == a1.Kind) && (a0.URI == a1.URI)) && (a0.Name == a1.Name)) t6)) rfl rfl ?_
    refine .cv (VOk.asg (d := (.v (.bool ((((a0.Kind == a1.Kind) && (a0.URI == a1.URI)) && (a0.Name == a1.Name)) && t6)))) rfl rfl) rfl rfl ?_
    exact .done (.rf rfl rfl)
  refine Ok.ret ?_
  obtain rfl := Option.some.inj H
  exact ⟨.inl rfl, ⟨_, (.cons (.tmp rfl) .nil), rfl⟩, trivial⟩

/-! watchbill/watchbillref16.Same: function 34 -/
def watchbillref16_Same.l0 (k : Nat) (self : List T_api_Entry → List T_api_Entry → Option Bool) (a0 : List T_api_Entry) (a1 : List T_api_Entry) : Nat → Int → Option Bool
  | 0, _ => none
  | m3 + 1, x5_1 => (if (decide (x5_1 < (a0.length : Int))) = true then (if (0 : Int) ≤ x5_1 ∧ x5_1 < (a0.length : Int) then (if (0 : Int) ≤ x5_1 ∧ x5_1 < (a1.length : Int) then ((watchbillref16_One self (rd a0 x5_1) (rd a1 x5_1)).bind fun (t6 : Bool) => (if (!t6) = true then some false else watchbillref16_Same.l0 k self a0 a1 m3 (IntKind.i64.wrap (x5_1 + 1)))) else none) else none) else some true)
def watchbillref16_Same : Nat → List T_api_Entry → List T_api_Entry → Option Bool
  | 0, _, _ => none
  | k + 1, a0, a1 => (if ((a0.length : Int) != (a1.length : Int)) = true then some false else watchbillref16_Same.l0 k (watchbillref16_Same k) a0 a1 k 0)
theorem watchbillref16_Same.ok {k : Nat} {a0 : List T_api_Entry} {a1 : List T_api_Entry} {r : Bool} (H : watchbillref16_Same k a0 a1 = some r) : Vx.Fn Try.prog 34 [(L 4 e_api_Entry a0), (L 4 e_api_Entry a1)] [] (.v (.bool r)) [] := by
  induction k generalizing a0 a1 r with
  | zero => exact absurd H (by simp [watchbillref16_Same])
  | succ k ih =>
    unfold watchbillref16_Same at H
    refine Vx.Fn.of_okR Try.func34 rfl (Nat.le_of_ble_eq_true rfl) ?_
    refine Ok.seq ?_
    refine Ok.region (σ' := ⟨[(0, (L 4 e_api_Entry a0)), (1, (L 4 e_api_Entry a1))], []⟩) ?_ ?_
    · refine .cv (VOk.asg (d := (.v (.bool false))) rfl rfl) rfl rfl ?_
      exact .done (.rf rfl rfl)
    refine Ok.seq ?_
    refine Ok.seq ?_
    refine Ok.region (σ' := ⟨[(0, (L 4 e_api_Entry a0)), (1, (L 4 e_api_Entry a1)), (10, (.v (.bool ((a0.length : Int) != (a1.length : Int)))))], []⟩) ?_ ?_
    · refine .cv (VOk.mv (d := (L 4 e_api_Entry a0)) rfl rfl) rfl rfl ?_
      refine .cv (VOk.lenL (e := e_api_Entry) (xs := a0) rfl Try.underlying36 rfl) rfl rfl ?_
      refine .cv (VOk.mv (d := (L 4 e_api_Entry a1)) rfl rfl) rfl rfl ?_
      refine .cv (VOk.lenL (e := e_api_Entry) (xs := a1) rfl Try.underlying36 rfl) rfl rfl ?_
      refine .cv (VOk.arith (op := .neq) (k := .i64) (a := (a0.length : Int)) (b := (a1.length : Int)) rfl rfl rfl rfl) rfl rfl ?_
      exact .done (.rf rfl rfl)
    refine Ok.test (b := ((a0.length : Int) != (a1.length : Int))) rfl (fun hb10 => ?_) (fun hb10 => ?_)
    · replace H := ifT H hb10
      refine Ok.seq ?_
      refine Ok.region (σ' := ⟨[(4, (.v (.bool false)))], []⟩) ?_ ?_
      · refine .cv (VOk.asg (d := (.v (.bool false))) rfl rfl) rfl rfl ?_
        exact .done (.rf rfl rfl)
      refine Ok.ret ?_
      obtain rfl := Option.some.inj H
      exact ⟨.inl rfl, ⟨_, (.cons (.tmp rfl) .nil), rfl⟩, trivial⟩
    · replace H := ifF H hb10
      refine Ok.skip ?_
      refine Ok.seq ?_
      refine Ok.seq ?_
      refine Ok.region (σ' := ⟨[(0, (L 4 e_api_Entry a0)), (1, (L 4 e_api_Entry a1)), (5, (.v (.int .i64 0)))], []⟩) ?_ ?_
      · refine .cv (VOk.asg (d := (.v (.int .i64 0))) rfl rfl) rfl rfl ?_
        exact .done (.rf rfl rfl)
      refine Ok.block ?_
      refine Ok.le (σ' := ⟨[(0, (L 4 e_api_Entry a0)), (1, (L 4 e_api_Entry a1)), (5, (.v (.int .i64 0)))], []⟩) (.rf rfl rfl) ?_
      refine Ok.loop (fun m3 σ => ∃ (x5_1 : Int), σ = ⟨[(0, (L 4 e_api_Entry a0)), (1, (L 4 e_api_Entry a1)), (5, (.v (.int .i64 x5_1)))], []⟩ ∧ watchbillref16_Same.l0 k (watchbillref16_Same k) a0 a1 m3 x5_1 = some r) k ⟨0, rfl, H⟩ ?_
      rintro m3 σ ⟨x5_1, rfl, H⟩
      cases m3 with
      | zero => exact absurd H (by simp [watchbillref16_Same.l0])
      | succ m3 =>
        unfold watchbillref16_Same.l0 at H
        refine Ok.seq ?_
        refine Ok.seq ?_
        refine Ok.region (σ' := ⟨[(0, (L 4 e_api_Entry a0)), (1, (L 4 e_api_Entry a1)), (5, (.v (.int .i64 x5_1))), (14, (.v (.bool (decide (x5_1 < (a0.length : Int))))))], []⟩) ?_ ?_
        · refine .cv (VOk.mv (d := (.v (.int .i64 x5_1))) rfl rfl) rfl rfl ?_
          refine .cv (VOk.mv (d := (L 4 e_api_Entry a0)) rfl rfl) rfl rfl ?_
          refine .cv (VOk.lenL (e := e_api_Entry) (xs := a0) rfl Try.underlying36 rfl) rfl rfl ?_
          refine .cv (VOk.arith (op := .lss) (k := .i64) (a := x5_1) (b := (a0.length : Int)) rfl rfl rfl rfl) rfl rfl ?_
          exact .done (.rf rfl rfl)
        refine Ok.test (b := (decide (x5_1 < (a0.length : Int)))) rfl (fun hb9 => ?_) (fun hb9 => ?_)
        · replace H := ifT H hb9
          refine Ok.skip ?_
          refine Ok.seq ?_
          refine Ok.block ?_
          refine Ok.seq ?_
          obtain ⟨c4, H⟩ := assertE H
          obtain ⟨c5, H⟩ := assertE H
          obtain ⟨t6, h7, H⟩ := bindE H
          refine Ok.drawE (σ' := ⟨[(0, (L 4 e_api_Entry a0)), (1, (L 4 e_api_Entry a1)), (5, (.v (.int .i64 x5_1))), (26, (.v (.bool (!t6))))], []⟩) [⟨true, [(0, (L 4 e_api_Entry a0))], (L 4 e_api_Entry a0)⟩, ⟨true, [(5, (.v (.int .i64 x5_1)))], (.v (.int .i64 x5_1))⟩, ⟨true, [(17, (L 4 e_api_Entry a0)), (18, (.v (.int .i64 x5_1)))], (.fp (e_api_Entry (rd a0 x5_1)) 0)⟩, ⟨true, [(19, (.fp (e_api_Entry (rd a0 x5_1)) 0))], (.agg (e_api_Entry (rd a0 x5_1)))⟩, ⟨true, [(1, (L 4 e_api_Entry a1))], (L 4 e_api_Entry a1)⟩, ⟨true, [(5, (.v (.int .i64 x5_1)))], (.v (.int .i64 x5_1))⟩, ⟨true, [(21, (L 4 e_api_Entry a1)), (22, (.v (.int .i64 x5_1)))], (.fp (e_api_Entry (rd a1 x5_1)) 0)⟩, ⟨true, [(23, (.fp (e_api_Entry (rd a1 x5_1)) 0))], (.agg (e_api_Entry (rd a1 x5_1)))⟩, ⟨true, [(20, (.agg (e_api_Entry (rd a0 x5_1)))), (24, (.agg (e_api_Entry (rd a1 x5_1))))], (.v (.bool t6))⟩, ⟨true, [(25, (.v (.bool t6)))], (.v (.bool (!t6)))⟩] [[], [], [0, 1], [2], [], [], [4, 5], [6], [3, 7], [8]] mixed (by kernel_rfl) ?_ ?_
          · refine TxtE.cons rfl ⟨.same _, trivial⟩ rfl (VOk.g (VOk.mv (d := (L 4 e_api_Entry a0)) rfl rfl)) ?_
            refine TxtE.cons rfl ⟨.same _, trivial⟩ rfl (VOk.g (VOk.mv (d := (.v (.int .i64 x5_1))) rfl rfl)) ?_
            refine TxtE.cons rfl ⟨.same _, .same _, trivial⟩ rfl (VOk.g (VOk.indexL (sz := 4) (e := e_api_Entry) (xs := a0) (i := x5_1) rfl Try.underlying36 sz56 rfl rfl c4)) ?_
            refine TxtE.cons rfl ⟨.same _, trivial⟩ rfl (VOk.g (VOk.to (d' := (.agg (e_api_Entry (rd a0 x5_1)))) (.loadFpAgg rfl Try.underlying56 rfl sz56 rfl rfl) rfl)) ?_
            refine TxtE.cons rfl ⟨.same _, trivial⟩ rfl (VOk.g (VOk.mv (d := (L 4 e_api_Entry a1)) rfl rfl)) ?_
            refine TxtE.cons rfl ⟨.same _, trivial⟩ rfl (VOk.g (VOk.mv (d := (.v (.int .i64 x5_1))) rfl rfl)) ?_
            refine TxtE.cons rfl ⟨.same _, .same _, trivial⟩ rfl (VOk.g (VOk.indexL (sz := 4) (e := e_api_Entry) (xs := a1) (i := x5_1) rfl Try.underlying36 sz56 rfl rfl c5)) ?_
            refine TxtE.cons rfl ⟨.same _, trivial⟩ rfl (VOk.g (VOk.to (d' := (.agg (e_api_Entry (rd a1 x5_1)))) (.loadFpAgg rfl Try.underlying56 rfl sz56 rfl rfl) rfl)) ?_
            refine TxtE.cons rfl ⟨.same _, .same _, trivial⟩ rfl (GOk.call rfl rfl cl61 rfl (watchbillref16_One.ok (fun {a0 a1 r} h => @ih _ _ _ h) h7) rfl) ?_
            refine TxtE.cons rfl ⟨.same _, trivial⟩ rfl (VOk.g (VOk.not (b := t6) rfl rfl)) ?_
            exact .done (.rf rfl rfl)
          refine Ok.test (b := (!t6)) rfl (fun hb8 => ?_) (fun hb8 => ?_)
          · replace H := ifT H hb8
            refine Ok.seq ?_
            refine Ok.region (σ' := ⟨[(4, (.v (.bool false)))], []⟩) ?_ ?_
            · refine .cv (VOk.asg (d := (.v (.bool false))) rfl rfl) rfl rfl ?_
              exact .done (.rf rfl rfl)
            refine Ok.ret ?_
            obtain rfl := Option.some.inj H
            exact ⟨.inl rfl, ⟨_, (.cons (.tmp rfl) .nil), rfl⟩, trivial⟩
          · replace H := ifF H hb8
            refine Ok.skip ?_
            refine Ok.region (σ' := ⟨[(0, (L 4 e_api_Entry a0)), (1, (L 4 e_api_Entry a1)), (5, (.v (.int .i64 (IntKind.i64.wrap (x5_1 + 1)))))], []⟩) ?_ ?_
            · refine .cv (VOk.mv (d := (.v (.int .i64 x5_1))) rfl rfl) rfl rfl ?_
              refine .cv (VOk.arith (op := .add) (k := .i64) (a := x5_1) (b := 1) rfl rfl rfl rfl) rfl rfl ?_
              refine .cv (VOk.asg (d := (.v (.int .i64 (IntKind.i64.wrap (x5_1 + 1))))) rfl rfl) rfl rfl ?_
              exact .done (.rf rfl rfl)
            exact ⟨m3, Nat.lt_succ_self m3, (IntKind.i64.wrap (x5_1 + 1)), rfl, H⟩
        · replace H := ifF H hb9
          refine Ok.exit ?_
          refine Ok.seq ?_
          refine Ok.region (σ' := ⟨[(4, (.v (.bool true)))], []⟩) ?_ ?_
          · refine .cv (VOk.asg (d := (.v (.bool true))) rfl rfl) rfl rfl ?_
            exact .done (.rf rfl rfl)
          refine Ok.ret ?_
          obtain rfl := Option.some.inj H
          exact ⟨.inl rfl, ⟨_, (.cons (.tmp rfl) .nil), rfl⟩, trivial⟩

/-! watchbill/watchbillref09.Same: function 35 -/
def watchbillref09_Same.l0 (k : Nat) (a0 : List Str) (a1 : List Str) : Nat → Int → Option Bool
  | 0, _ => none
  | m3 + 1, x5_1 => (if (decide (x5_1 < (a0.length : Int))) = true then (if (0 : Int) ≤ x5_1 ∧ x5_1 < (a0.length : Int) then (if (0 : Int) ≤ x5_1 ∧ x5_1 < (a1.length : Int) then (if (!((rd a0 x5_1) == (rd a1 x5_1))) = true then some false else watchbillref09_Same.l0 k a0 a1 m3 (IntKind.i64.wrap (x5_1 + 1))) else none) else none) else some true)
def watchbillref09_Same (k : Nat) (a0 : List Str) (a1 : List Str) : Option Bool := (if ((a0.length : Int) != (a1.length : Int)) = true then some false else watchbillref09_Same.l0 k a0 a1 k 0)
theorem watchbillref09_Same.ok {k : Nat} {a0 : List Str} {a1 : List Str} {r : Bool} (H : watchbillref09_Same k a0 a1 = some r) : Vx.Fn Try.prog 35 [(L 1 eS a0), (L 1 eS a1)] [] (.v (.bool r)) [] := by
  unfold watchbillref09_Same at H
  refine Vx.Fn.of_okR Try.func35 rfl (Nat.le_of_ble_eq_true rfl) ?_
  refine Ok.seq ?_
  refine Ok.region (σ' := ⟨[(0, (L 1 eS a0)), (1, (L 1 eS a1))], []⟩) ?_ ?_
  · refine .cv (VOk.asg (d := (.v (.bool false))) rfl rfl) rfl rfl ?_
    exact .done (.rf rfl rfl)
  refine Ok.seq ?_
  refine Ok.seq ?_
  refine Ok.region (σ' := ⟨[(0, (L 1 eS a0)), (1, (L 1 eS a1)), (10, (.v (.bool ((a0.length : Int) != (a1.length : Int)))))], []⟩) ?_ ?_
  · refine .cv (VOk.mv (d := (L 1 eS a0)) rfl rfl) rfl rfl ?_
    refine .cv (VOk.lenL (e := eS) (xs := a0) rfl Try.underlying37 rfl) rfl rfl ?_
    refine .cv (VOk.mv (d := (L 1 eS a1)) rfl rfl) rfl rfl ?_
    refine .cv (VOk.lenL (e := eS) (xs := a1) rfl Try.underlying37 rfl) rfl rfl ?_
    refine .cv (VOk.arith (op := .neq) (k := .i64) (a := (a0.length : Int)) (b := (a1.length : Int)) rfl rfl rfl rfl) rfl rfl ?_
    exact .done (.rf rfl rfl)
  refine Ok.test (b := ((a0.length : Int) != (a1.length : Int))) rfl (fun hb8 => ?_) (fun hb8 => ?_)
  · replace H := ifT H hb8
    refine Ok.seq ?_
    refine Ok.region (σ' := ⟨[(4, (.v (.bool false)))], []⟩) ?_ ?_
    · refine .cv (VOk.asg (d := (.v (.bool false))) rfl rfl) rfl rfl ?_
      exact .done (.rf rfl rfl)
    refine Ok.ret ?_
    obtain rfl := Option.some.inj H
    exact ⟨.inl rfl, ⟨_, (.cons (.tmp rfl) .nil), rfl⟩, trivial⟩
  · replace H := ifF H hb8
    refine Ok.skip ?_
    refine Ok.seq ?_
    refine Ok.seq ?_
    refine Ok.region (σ' := ⟨[(0, (L 1 eS a0)), (1, (L 1 eS a1)), (5, (.v (.int .i64 0)))], []⟩) ?_ ?_
    · refine .cv (VOk.asg (d := (.v (.int .i64 0))) rfl rfl) rfl rfl ?_
      exact .done (.rf rfl rfl)
    refine Ok.block ?_
    refine Ok.le (σ' := ⟨[(0, (L 1 eS a0)), (1, (L 1 eS a1)), (5, (.v (.int .i64 0)))], []⟩) (.rf rfl rfl) ?_
    refine Ok.loop (fun m3 σ => ∃ (x5_1 : Int), σ = ⟨[(0, (L 1 eS a0)), (1, (L 1 eS a1)), (5, (.v (.int .i64 x5_1)))], []⟩ ∧ watchbillref09_Same.l0 k a0 a1 m3 x5_1 = some r) k ⟨0, rfl, H⟩ ?_
    rintro m3 σ ⟨x5_1, rfl, H⟩
    cases m3 with
    | zero => exact absurd H (by simp [watchbillref09_Same.l0])
    | succ m3 =>
      unfold watchbillref09_Same.l0 at H
      refine Ok.seq ?_
      refine Ok.seq ?_
      refine Ok.region (σ' := ⟨[(0, (L 1 eS a0)), (1, (L 1 eS a1)), (5, (.v (.int .i64 x5_1))), (14, (.v (.bool (decide (x5_1 < (a0.length : Int))))))], []⟩) ?_ ?_
      · refine .cv (VOk.mv (d := (.v (.int .i64 x5_1))) rfl rfl) rfl rfl ?_
        refine .cv (VOk.mv (d := (L 1 eS a0)) rfl rfl) rfl rfl ?_
        refine .cv (VOk.lenL (e := eS) (xs := a0) rfl Try.underlying37 rfl) rfl rfl ?_
        refine .cv (VOk.arith (op := .lss) (k := .i64) (a := x5_1) (b := (a0.length : Int)) rfl rfl rfl rfl) rfl rfl ?_
        exact .done (.rf rfl rfl)
      refine Ok.test (b := (decide (x5_1 < (a0.length : Int)))) rfl (fun hb7 => ?_) (fun hb7 => ?_)
      · replace H := ifT H hb7
        refine Ok.skip ?_
        refine Ok.seq ?_
        refine Ok.block ?_
        refine Ok.seq ?_
        obtain ⟨c4, H⟩ := assertE H
        obtain ⟨c5, H⟩ := assertE H
        refine Ok.drawE (σ' := ⟨[(0, (L 1 eS a0)), (1, (L 1 eS a1)), (5, (.v (.int .i64 x5_1))), (25, (.v (.bool (!((rd a0 x5_1) == (rd a1 x5_1))))))], []⟩) [⟨true, [(0, (L 1 eS a0))], (L 1 eS a0)⟩, ⟨true, [(5, (.v (.int .i64 x5_1)))], (.v (.int .i64 x5_1))⟩, ⟨true, [(17, (L 1 eS a0)), (18, (.v (.int .i64 x5_1)))], (.fp (eS (rd a0 x5_1)) 0)⟩, ⟨true, [(19, (.fp (eS (rd a0 x5_1)) 0))], (S (rd a0 x5_1))⟩, ⟨true, [(1, (L 1 eS a1))], (L 1 eS a1)⟩, ⟨true, [(5, (.v (.int .i64 x5_1)))], (.v (.int .i64 x5_1))⟩, ⟨true, [(21, (L 1 eS a1)), (22, (.v (.int .i64 x5_1)))], (.fp (eS (rd a1 x5_1)) 0)⟩, ⟨true, [(23, (.fp (eS (rd a1 x5_1)) 0))], (S (rd a1 x5_1))⟩, ⟨true, [(20, (S (rd a0 x5_1))), (24, (S (rd a1 x5_1)))], (.v (.bool (!((rd a0 x5_1) == (rd a1 x5_1)))))⟩] [[], [], [0, 1], [2], [], [], [4, 5], [6], [3, 7]] mixed (by kernel_rfl) ?_ ?_
        · refine TxtE.cons rfl ⟨.same _, trivial⟩ rfl (VOk.g (VOk.mv (d := (L 1 eS a0)) rfl rfl)) ?_
          refine TxtE.cons rfl ⟨.same _, trivial⟩ rfl (VOk.g (VOk.mv (d := (.v (.int .i64 x5_1))) rfl rfl)) ?_
          refine TxtE.cons rfl ⟨.same _, .same _, trivial⟩ rfl (VOk.g (VOk.indexL (sz := 1) (e := eS) (xs := a0) (i := x5_1) rfl Try.underlying37 sz9 rfl rfl c4)) ?_
          refine TxtE.cons rfl ⟨.same _, trivial⟩ rfl (VOk.g (VOk.loadFp (d := (S (rd a0 x5_1))) rfl Try.underlying9 rfl rfl rfl)) ?_
          refine TxtE.cons rfl ⟨.same _, trivial⟩ rfl (VOk.g (VOk.mv (d := (L 1 eS a1)) rfl rfl)) ?_
          refine TxtE.cons rfl ⟨.same _, trivial⟩ rfl (VOk.g (VOk.mv (d := (.v (.int .i64 x5_1))) rfl rfl)) ?_
          refine TxtE.cons rfl ⟨.same _, .same _, trivial⟩ rfl (VOk.g (VOk.indexL (sz := 1) (e := eS) (xs := a1) (i := x5_1) rfl Try.underlying37 sz9 rfl rfl c5)) ?_
          refine TxtE.cons rfl ⟨.same _, trivial⟩ rfl (VOk.g (VOk.loadFp (d := (S (rd a1 x5_1))) rfl Try.underlying9 rfl rfl rfl)) ?_
          refine TxtE.cons rfl ⟨.same _, .same _, trivial⟩ rfl (VOk.g (VOk.strOp (op := .neq) (a := (rd a0 x5_1)) (b := (rd a1 x5_1)) rfl rfl rfl rfl)) ?_
          exact .done (.rf rfl rfl)
        refine Ok.test (b := (!((rd a0 x5_1) == (rd a1 x5_1)))) rfl (fun hb6 => ?_) (fun hb6 => ?_)
        · replace H := ifT H hb6
          refine Ok.seq ?_
          refine Ok.region (σ' := ⟨[(4, (.v (.bool false)))], []⟩) ?_ ?_
          · refine .cv (VOk.asg (d := (.v (.bool false))) rfl rfl) rfl rfl ?_
            exact .done (.rf rfl rfl)
          refine Ok.ret ?_
          obtain rfl := Option.some.inj H
          exact ⟨.inl rfl, ⟨_, (.cons (.tmp rfl) .nil), rfl⟩, trivial⟩
        · replace H := ifF H hb6
          refine Ok.skip ?_
          refine Ok.region (σ' := ⟨[(0, (L 1 eS a0)), (1, (L 1 eS a1)), (5, (.v (.int .i64 (IntKind.i64.wrap (x5_1 + 1)))))], []⟩) ?_ ?_
          · refine .cv (VOk.mv (d := (.v (.int .i64 x5_1))) rfl rfl) rfl rfl ?_
            refine .cv (VOk.arith (op := .add) (k := .i64) (a := x5_1) (b := 1) rfl rfl rfl rfl) rfl rfl ?_
            refine .cv (VOk.asg (d := (.v (.int .i64 (IntKind.i64.wrap (x5_1 + 1))))) rfl rfl) rfl rfl ?_
            exact .done (.rf rfl rfl)
          exact ⟨m3, Nat.lt_succ_self m3, (IntKind.i64.wrap (x5_1 + 1)), rfl, H⟩
      · replace H := ifF H hb7
        refine Ok.exit ?_
        refine Ok.seq ?_
        refine Ok.region (σ' := ⟨[(4, (.v (.bool true)))], []⟩) ?_ ?_
        · refine .cv (VOk.asg (d := (.v (.bool true))) rfl rfl) rfl rfl ?_
          exact .done (.rf rfl rfl)
        refine Ok.ret ?_
        obtain rfl := Option.some.inj H
        exact ⟨.inl rfl, ⟨_, (.cons (.tmp rfl) .nil), rfl⟩, trivial⟩

/-! watchbill/watchbillref17.One: function 16 -/
def watchbillref17_One (k : Nat) (a0 : T_api_Service) (a1 : T_api_Service) : Option Bool := (((if ((((a0.URI == a1.URI) && (a0.Inline == a1.Inline)) && (a0.Ref == a1.Ref)) == true) = true then watchbillref16_Same k a0.List_ a1.List_ else some default)).bind fun (t6 : Bool) => (((if (((((a0.URI == a1.URI) && (a0.Inline == a1.Inline)) && (a0.Ref == a1.Ref)) && t6) == true) = true then watchbillref09_Same k a0.Packages a1.Packages else some default)).bind fun (t10 : Bool) => some (((((a0.URI == a1.URI) && (a0.Inline == a1.Inline)) && (a0.Ref == a1.Ref)) && t6) && t10)))
theorem watchbillref17_One.ok {k : Nat} {a0 : T_api_Service} {a1 : T_api_Service} {r : Bool} (H : watchbillref17_One k a0 a1 = some r) : Vx.Fn Try.prog 16 [(.agg (e_api_Service a0)), (.agg (e_api_Service a1))] [] (.v (.bool r)) [] := by
  unfold watchbillref17_One at H
  refine Vx.Fn.of_okR Try.func16 rfl (Nat.le_of_ble_eq_true rfl) ?_
  refine Ok.seq ?_
  refine Ok.region (σ' := ⟨[(2, (.bref 2 0)), (3, (.bref 3 0))], [(2, (.box .ex (c_api_Service a0))), (3, (.box .ex (c_api_Service a1)))]⟩) ?_ ?_
  · refine OpsOk.cons rfl (OpOk.box 2 (cells := [(S a0.URI), (L 4 e_api_Entry a0.List_), (.v (.bool a0.Inline)), (S a0.Ref), (L 1 eS a0.Packages)]) rfl rfl rfl rfl) ?_
    refine OpsOk.cons rfl (OpOk.box 3 (cells := [(S a1.URI), (L 4 e_api_Entry a1.List_), (.v (.bool a1.Inline)), (S a1.Ref), (L 1 eS a1.Packages)]) rfl rfl rfl rfl) ?_
    refine .cv (VOk.asg (d := (.v (.bool false))) rfl rfl) rfl rfl ?_
    exact .done (.rf rfl rfl)
  refine Ok.seq ?_
  obtain ⟨t6, h7, H⟩ := bindE H
  obtain ⟨t10, h11, H⟩ := bindE H
  refine Ok.region (σ' := ⟨[(4, (.v (.bool (((((a0.URI == a1.URI) && (a0.Inline == a1.Inline)) && (a0.Ref == a1.Ref)) && t6) && t10))))], []⟩) ?_ ?_
  · refine .cv (VOk.to (VOk.fieldB rfl Try.underlying39 rfl sz9 rfl rfl) rfl) rfl rfl ?_
    refine .cv (VOk.loadB (d := (S a0.URI)) rfl Try.underlying9 rfl rfl rfl rfl) rfl rfl ?_
    refine .cv (VOk.to (VOk.fieldB rfl Try.underlying39 rfl sz9 rfl rfl) rfl) rfl rfl ?_
    refine .cv (VOk.loadB (d := (S a1.URI)) rfl Try.underlying9 rfl rfl rfl rfl) rfl rfl ?_
    refine .cv (VOk.strOp (op := .eql) (a := a0.URI) (b := a1.URI) rfl rfl rfl rfl) rfl rfl ?_
    refine .cv (VOk.mv (d := (.v (.bool (a0.URI == a1.URI)))) rfl rfl) rfl rfl ?_
    refine OpsOk.consI rfl rfl rfl (.one rfl) rfl (fun hw1 => (VOk.g (VOk.to (VOk.fieldB rfl Try.underlying39 rfl sz4 rfl rfl) rfl))) ?_
    refine OpsOk.consI rfl rfl rfl (.one rfl) rfl (fun hw1 => (GOk.fr (fr' := [(11, (.bref 2 2))]) ⟨DLe.of_eq (cT hw1).symm, trivial⟩ (VOk.g (VOk.loadB (d := (.v (.bool a0.Inline))) rfl Try.underlying4 rfl rfl rfl rfl)))) ?_
    refine OpsOk.consI rfl rfl rfl (.one rfl) rfl (fun hw1 => (VOk.g (VOk.to (VOk.fieldB rfl Try.underlying39 rfl sz4 rfl rfl) rfl))) ?_
    refine OpsOk.consI rfl rfl rfl (.one rfl) rfl (fun hw1 => (GOk.fr (fr' := [(13, (.bref 3 2))]) ⟨DLe.of_eq (cT hw1).symm, trivial⟩ (VOk.g (VOk.loadB (d := (.v (.bool a1.Inline))) rfl Try.underlying4 rfl rfl rfl rfl)))) ?_
    refine OpsOk.consI rfl rfl rfl (.one rfl) rfl (fun hw1 => (GOk.fr (fr' := [(12, (.v (.bool a0.Inline))), (14, (.v (.bool a1.Inline)))]) ⟨DLe.of_eq (cT hw1).symm, DLe.of_eq (cT hw1).symm, trivial⟩ (VOk.g (VOk.eqB (op := .eql) (p := a0.Inline) (q := a1.Inline) rfl (.inl rfl) Try.underlying4 rfl rfl)))) ?_
    refine .cv (VOk.to (VOk.pickI (b := (a0.URI == a1.URI)) (p := (a0.Inline == a1.Inline)) (q := false) rfl rfl (fun hp2 => (cT (t_beq hp2))) (fun hp2 => rfl)) (pickAnd (a0.URI == a1.URI) (a0.Inline == a1.Inline))) rfl rfl ?_
    refine .cv (VOk.mv (d := (.v (.bool ((a0.URI == a1.URI) && (a0.Inline == a1.Inline))))) rfl rfl) rfl rfl ?_
    refine OpsOk.consI rfl rfl rfl (.one rfl) rfl (fun hw3 => (VOk.g (VOk.to (VOk.fieldB rfl Try.underlying39 rfl sz9 rfl rfl) rfl))) ?_
    refine OpsOk.consI rfl rfl rfl (.one rfl) rfl (fun hw3 => (GOk.fr (fr' := [(18, (.bref 2 3))]) ⟨DLe.of_eq (cT hw3).symm, trivial⟩ (VOk.g (VOk.loadB (d := (S a0.Ref)) rfl Try.underlying9 rfl rfl rfl rfl)))) ?_
    refine OpsOk.consI rfl rfl rfl (.one rfl) rfl (fun hw3 => (VOk.g (VOk.to (VOk.fieldB rfl Try.underlying39 rfl sz9 rfl rfl) rfl))) ?_
    refine OpsOk.consI rfl rfl rfl (.one rfl) rfl (fun hw3 => (GOk.fr (fr' := [(20, (.bref 3 3))]) ⟨DLe.of_eq (cT hw3).symm, trivial⟩ (VOk.g (VOk.loadB (d := (S a1.Ref)) rfl Try.underlying9 rfl rfl rfl rfl)))) ?_
    refine OpsOk.consI rfl rfl rfl (.one rfl) rfl (fun hw3 => (GOk.fr (fr' := [(19, (S a0.Ref)), (21, (S a1.Ref))]) ⟨DLe.of_eq (cT hw3).symm, DLe.of_eq (cT hw3).symm, trivial⟩ (VOk.g (VOk.strOp (op := .eql) (a := a0.Ref) (b := a1.Ref) rfl rfl rfl rfl)))) ?_
    refine .cv (VOk.to (VOk.pickI (b := ((a0.URI == a1.URI) && (a0.Inline == a1.Inline))) (p := (a0.Ref == a1.Ref)) (q := false) rfl rfl (fun hp4 => (cT (t_beq hp4))) (fun hp4 => rfl)) (pickAnd ((a0.URI == a1.URI) && (a0.Inline == a1.Inline)) (a0.Ref == a1.Ref))) rfl rfl ?_
    refine .cv (VOk.mv (d := (.v (.bool (((a0.URI == a1.URI) && (a0.Inline == a1.Inline)) && (a0.Ref == a1.Ref))))) rfl rfl) rfl rfl ?_
    refine OpsOk.consI rfl rfl rfl (.one rfl) rfl (fun hw5 => (VOk.g (VOk.to (VOk.fieldB rfl Try.underlying39 rfl sz36 rfl rfl) rfl))) ?_
    refine OpsOk.consI rfl rfl rfl (.one rfl) rfl (fun hw5 => (GOk.fr (fr' := [(25, (.bref 2 1))]) ⟨DLe.of_eq (cT hw5).symm, trivial⟩ (VOk.g (VOk.loadB (d := (L 4 e_api_Entry a0.List_)) rfl Try.underlying36 rfl rfl rfl rfl)))) ?_
    refine OpsOk.consI rfl rfl rfl (.one rfl) rfl (fun hw5 => (VOk.g (VOk.to (VOk.fieldB rfl Try.underlying39 rfl sz36 rfl rfl) rfl))) ?_
    refine OpsOk.consI rfl rfl rfl (.one rfl) rfl (fun hw5 => (GOk.fr (fr' := [(27, (.bref 3 1))]) ⟨DLe.of_eq (cT hw5).symm, trivial⟩ (VOk.g (VOk.loadB (d := (L 4 e_api_Entry a1.List_)) rfl Try.underlying36 rfl rfl rfl rfl)))) ?_
    refine OpsOk.consI rfl rfl rfl (.one rfl) rfl (fun hw5 => (GOk.fr (fr' := [(26, (L 4 e_api_Entry a0.List_)), (28, (L 4 e_api_Entry a1.List_))]) ⟨DLe.of_eq (cT hw5).symm, DLe.of_eq (cT hw5).symm, trivial⟩ (GOk.call rfl rfl cl34 rfl (watchbillref16_Same.ok (ifT h7 hw5)) rfl))) ?_
    refine .cv (VOk.to (VOk.pickI (b := (((a0.URI == a1.URI) && (a0.Inline == a1.Inline)) && (a0.Ref == a1.Ref))) (p := t6) (q := false) rfl rfl (fun hp8 => (cT (t_beq hp8))) (fun hp8 => rfl)) (pickAnd (((a0.URI == a1.URI) && (a0.Inline == a1.Inline)) && (a0.Ref == a1.Ref)) t6)) rfl rfl ?_
    refine .cv (VOk.mv (d := (.v (.bool ((((a0.URI == a1.URI) && (a0.Inline == a1.Inline)) && (a0.Ref == a1.Ref)) && t6)))) rfl rfl) rfl rfl ?_
    refine OpsOk.consI rfl rfl rfl (.one rfl) rfl (fun hw9 => (VOk.g (VOk.to (VOk.fieldB rfl Try.underlying39 rfl sz37 rfl rfl) rfl))) ?_
    refine OpsOk.consI rfl rfl rfl (.one rfl) rfl (fun hw9 => (GOk.fr (fr' := [(32, (.bref 2 4))]) ⟨DLe.of_eq (cT hw9).symm, trivial⟩ (VOk.g (VOk.loadB (d := (L 1 eS a0.Packages)) rfl Try.underlying37 rfl rfl rfl rfl)))) ?_
    refine OpsOk.consI rfl rfl rfl (.one rfl) rfl (fun hw9 => (VOk.g (VOk.to (VOk.fieldB rfl Try.underlying39 rfl sz37 rfl rfl) rfl))) ?_
    refine OpsOk.consI rfl rfl rfl (.one rfl) rfl (fun hw9 => (GOk.fr (fr' := [(34, (.bref 3 4))]) ⟨DLe.of_eq (cT hw9).symm, trivial⟩ (VOk.g (VOk.loadB (d := (L 1 eS a1.Packages)) rfl Try.underlying37 rfl rfl rfl rfl)))) ?_
    refine OpsOk.consI rfl rfl rfl (.one rfl) rfl (fun hw9 => (GOk.fr (fr' := [(33, (L 1 eS a0.Packages)), (35, (L 1 eS a1.Packages))]) ⟨DLe.of_eq (cT hw9).symm, DLe.of_eq (cT hw9).symm, trivial⟩ (GOk.call rfl rfl cl35 rfl (watchbillref09_Same.ok (ifT h11 hw9)) rfl))) ?_
    refine .cv (VOk.to (VOk.pickI (b := ((((a0.URI == a1.URI) && (a0.Inline == a1.Inline)) && (a0.Ref == a1.Ref)) && t6)) (p := t10) (q := false) rfl rfl (fun hp12 => (cT (t_beq hp12))) (fun hp12 => rfl)) (pickAnd ((((a0.URI == a1.URI) && (a0.Inline == a1.Inline)) && (a0.Ref == a1.Ref)) && t6) t10)) rfl rfl ?_
    refine .cv (VOk.asg (d := (.v (.bool (((((a0.URI == a1.URI) && (a0.Inline == a1.Inline)) && (a0.Ref == a1.Ref)) && t6) && t10)))) rfl rfl) rfl rfl ?_
    exact .done (.rf rfl rfl)
  refine Ok.ret ?_
  obtain rfl := Option.some.inj H
  exact ⟨.inl rfl, ⟨_, (.cons (.tmp rfl) .nil), rfl⟩, trivial⟩

/-! watchbill/watchbillref17.Same: function 14 -/
def watchbillref17_Same.l0 (k : Nat) (a0 : List T_api_Service) (a1 : List T_api_Service) : Nat → Int → Option Bool
  | 0, _ => none
  | m3 + 1, x5_1 => (if (decide (x5_1 < (a0.length : Int))) = true then (if (0 : Int) ≤ x5_1 ∧ x5_1 < (a0.length : Int) then (if (0 : Int) ≤ x5_1 ∧ x5_1 < (a1.length : Int) then ((watchbillref17_One k (rd a0 x5_1) (rd a1 x5_1)).bind fun (t6 : Bool) => (if (!t6) = true then some false else watchbillref17_Same.l0 k a0 a1 m3 (IntKind.i64.wrap (x5_1 + 1)))) else none) else none) else some true)
def watchbillref17_Same (k : Nat) (a0 : List T_api_Service) (a1 : List T_api_Service) : Option Bool := (if ((a0.length : Int) != (a1.length : Int)) = true then some false else watchbillref17_Same.l0 k a0 a1 k 0)
theorem watchbillref17_Same.ok {k : Nat} {a0 : List T_api_Service} {a1 : List T_api_Service} {r : Bool} (H : watchbillref17_Same k a0 a1 = some r) : Vx.Fn Try.prog 14 [(L 5 e_api_Service a0), (L 5 e_api_Service a1)] [] (.v (.bool r)) [] := by
  unfold watchbillref17_Same at H
  refine Vx.Fn.of_okR Try.func14 rfl (Nat.le_of_ble_eq_true rfl) ?_
  refine Ok.seq ?_
  refine Ok.region (σ' := ⟨[(0, (L 5 e_api_Service a0)), (1, (L 5 e_api_Service a1))], []⟩) ?_ ?_
  · refine .cv (VOk.asg (d := (.v (.bool false))) rfl rfl) rfl rfl ?_
    exact .done (.rf rfl rfl)
  refine Ok.seq ?_
  refine Ok.seq ?_
  refine Ok.region (σ' := ⟨[(0, (L 5 e_api_Service a0)), (1, (L 5 e_api_Service a1)), (10, (.v (.bool ((a0.length : Int) != (a1.length : Int)))))], []⟩) ?_ ?_
  · refine .cv (VOk.mv (d := (L 5 e_api_Service a0)) rfl rfl) rfl rfl ?_
    refine .cv (VOk.lenL (e := e_api_Service) (xs := a0) rfl Try.underlying30 rfl) rfl rfl ?_
    refine .cv (VOk.mv (d := (L 5 e_api_Service a1)) rfl rfl) rfl rfl ?_
    refine .cv (VOk.lenL (e := e_api_Service) (xs := a1) rfl Try.underlying30 rfl) rfl rfl ?_
    refine .cv (VOk.arith (op := .neq) (k := .i64) (a := (a0.length : Int)) (b := (a1.length : Int)) rfl rfl rfl rfl) rfl rfl ?_
    exact .done (.rf rfl rfl)
  refine Ok.test (b := ((a0.length : Int) != (a1.length : Int))) rfl (fun hb10 => ?_) (fun hb10 => ?_)
  · replace H := ifT H hb10
    refine Ok.seq ?_
    refine Ok.region (σ' := ⟨[(4, (.v (.bool false)))], []⟩) ?_ ?_
    · refine .cv (VOk.asg (d := (.v (.bool false))) rfl rfl) rfl rfl ?_
      exact .done (.rf rfl rfl)
    refine Ok.ret ?_
    obtain rfl := Option.some.inj H
    exact ⟨.inl rfl, ⟨_, (.cons (.tmp rfl) .nil), rfl⟩, trivial⟩
  · replace H := ifF H hb10
    refine Ok.skip ?_
    refine Ok.seq ?_
    refine Ok.seq ?_
    refine Ok.region (σ' := ⟨[(0, (L 5 e_api_Service a0)), (1, (L 5 e_api_Service a1)), (5, (.v (.int .i64 0)))], []⟩) ?_ ?_
    · refine .cv (VOk.asg (d := (.v (.int .i64 0))) rfl rfl) rfl rfl ?_
      exact .done (.rf rfl rfl)
    refine Ok.block ?_
    refine Ok.le (σ' := ⟨[(0, (L 5 e_api_Service a0)), (1, (L 5 e_api_Service a1)), (5, (.v (.int .i64 0)))], []⟩) (.rf rfl rfl) ?_
    refine Ok.loop (fun m3 σ => ∃ (x5_1 : Int), σ = ⟨[(0, (L 5 e_api_Service a0)), (1, (L 5 e_api_Service a1)), (5, (.v (.int .i64 x5_1)))], []⟩ ∧ watchbillref17_Same.l0 k a0 a1 m3 x5_1 = some r) k ⟨0, rfl, H⟩ ?_
    rintro m3 σ ⟨x5_1, rfl, H⟩
    cases m3 with
    | zero => exact absurd H (by simp [watchbillref17_Same.l0])
    | succ m3 =>
      unfold watchbillref17_Same.l0 at H
      refine Ok.seq ?_
      refine Ok.seq ?_
      refine Ok.region (σ' := ⟨[(0, (L 5 e_api_Service a0)), (1, (L 5 e_api_Service a1)), (5, (.v (.int .i64 x5_1))), (14, (.v (.bool (decide (x5_1 < (a0.length : Int))))))], []⟩) ?_ ?_
      · refine .cv (VOk.mv (d := (.v (.int .i64 x5_1))) rfl rfl) rfl rfl ?_
        refine .cv (VOk.mv (d := (L 5 e_api_Service a0)) rfl rfl) rfl rfl ?_
        refine .cv (VOk.lenL (e := e_api_Service) (xs := a0) rfl Try.underlying30 rfl) rfl rfl ?_
        refine .cv (VOk.arith (op := .lss) (k := .i64) (a := x5_1) (b := (a0.length : Int)) rfl rfl rfl rfl) rfl rfl ?_
        exact .done (.rf rfl rfl)
      refine Ok.test (b := (decide (x5_1 < (a0.length : Int)))) rfl (fun hb9 => ?_) (fun hb9 => ?_)
      · replace H := ifT H hb9
        refine Ok.skip ?_
        refine Ok.seq ?_
        refine Ok.block ?_
        refine Ok.seq ?_
        obtain ⟨c4, H⟩ := assertE H
        obtain ⟨c5, H⟩ := assertE H
        obtain ⟨t6, h7, H⟩ := bindE H
        refine Ok.drawE (σ' := ⟨[(0, (L 5 e_api_Service a0)), (1, (L 5 e_api_Service a1)), (5, (.v (.int .i64 x5_1))), (26, (.v (.bool (!t6))))], []⟩) [⟨true, [(0, (L 5 e_api_Service a0))], (L 5 e_api_Service a0)⟩, ⟨true, [(5, (.v (.int .i64 x5_1)))], (.v (.int .i64 x5_1))⟩, ⟨true, [(17, (L 5 e_api_Service a0)), (18, (.v (.int .i64 x5_1)))], (.fp (e_api_Service (rd a0 x5_1)) 0)⟩, ⟨true, [(19, (.fp (e_api_Service (rd a0 x5_1)) 0))], (.agg (e_api_Service (rd a0 x5_1)))⟩, ⟨true, [(1, (L 5 e_api_Service a1))], (L 5 e_api_Service a1)⟩, ⟨true, [(5, (.v (.int .i64 x5_1)))], (.v (.int .i64 x5_1))⟩, ⟨true, [(21, (L 5 e_api_Service a1)), (22, (.v (.int .i64 x5_1)))], (.fp (e_api_Service (rd a1 x5_1)) 0)⟩, ⟨true, [(23, (.fp (e_api_Service (rd a1 x5_1)) 0))], (.agg (e_api_Service (rd a1 x5_1)))⟩, ⟨true, [(20, (.agg (e_api_Service (rd a0 x5_1)))), (24, (.agg (e_api_Service (rd a1 x5_1))))], (.v (.bool t6))⟩, ⟨true, [(25, (.v (.bool t6)))], (.v (.bool (!t6)))⟩] [[], [], [0, 1], [2], [], [], [4, 5], [6], [3, 7], [8]] mixed (by kernel_rfl) ?_ ?_
        · refine TxtE.cons rfl ⟨.same _, trivial⟩ rfl (VOk.g (VOk.mv (d := (L 5 e_api_Service a0)) rfl rfl)) ?_
          refine TxtE.cons rfl ⟨.same _, trivial⟩ rfl (VOk.g (VOk.mv (d := (.v (.int .i64 x5_1))) rfl rfl)) ?_
          refine TxtE.cons rfl ⟨.same _, .same _, trivial⟩ rfl (VOk.g (VOk.indexL (sz := 5) (e := e_api_Service) (xs := a0) (i := x5_1) rfl Try.underlying30 sz39 rfl rfl c4)) ?_
          refine TxtE.cons rfl ⟨.same _, trivial⟩ rfl (VOk.g (VOk.to (d' := (.agg (e_api_Service (rd a0 x5_1)))) (.loadFpAgg rfl Try.underlying39 rfl sz39 rfl rfl) rfl)) ?_
          refine TxtE.cons rfl ⟨.same _, trivial⟩ rfl (VOk.g (VOk.mv (d := (L 5 e_api_Service a1)) rfl rfl)) ?_
          refine TxtE.cons rfl ⟨.same _, trivial⟩ rfl (VOk.g (VOk.mv (d := (.v (.int .i64 x5_1))) rfl rfl)) ?_
          refine TxtE.cons rfl ⟨.same _, .same _, trivial⟩ rfl (VOk.g (VOk.indexL (sz := 5) (e := e_api_Service) (xs := a1) (i := x5_1) rfl Try.underlying30 sz39 rfl rfl c5)) ?_
          refine TxtE.cons rfl ⟨.same _, trivial⟩ rfl (VOk.g (VOk.to (d' := (.agg (e_api_Service (rd a1 x5_1)))) (.loadFpAgg rfl Try.underlying39 rfl sz39 rfl rfl) rfl)) ?_
          refine TxtE.cons rfl ⟨.same _, .same _, trivial⟩ rfl (GOk.call rfl rfl cl16 rfl (watchbillref17_One.ok h7) rfl) ?_
          refine TxtE.cons rfl ⟨.same _, trivial⟩ rfl (VOk.g (VOk.not (b := t6) rfl rfl)) ?_
          exact .done (.rf rfl rfl)
        refine Ok.test (b := (!t6)) rfl (fun hb8 => ?_) (fun hb8 => ?_)
        · replace H := ifT H hb8
          refine Ok.seq ?_
          refine Ok.region (σ' := ⟨[(4, (.v (.bool false)))], []⟩) ?_ ?_
          · refine .cv (VOk.asg (d := (.v (.bool false))) rfl rfl) rfl rfl ?_
            exact .done (.rf rfl rfl)
          refine Ok.ret ?_
          obtain rfl := Option.some.inj H
          exact ⟨.inl rfl, ⟨_, (.cons (.tmp rfl) .nil), rfl⟩, trivial⟩
        · replace H := ifF H hb8
          refine Ok.skip ?_
          refine Ok.region (σ' := ⟨[(0, (L 5 e_api_Service a0)), (1, (L 5 e_api_Service a1)), (5, (.v (.int .i64 (IntKind.i64.wrap (x5_1 + 1)))))], []⟩) ?_ ?_
          · refine .cv (VOk.mv (d := (.v (.int .i64 x5_1))) rfl rfl) rfl rfl ?_
            refine .cv (VOk.arith (op := .add) (k := .i64) (a := x5_1) (b := 1) rfl rfl rfl rfl) rfl rfl ?_
            refine .cv (VOk.asg (d := (.v (.int .i64 (IntKind.i64.wrap (x5_1 + 1))))) rfl rfl) rfl rfl ?_
            exact .done (.rf rfl rfl)
          exact ⟨m3, Nat.lt_succ_self m3, (IntKind.i64.wrap (x5_1 + 1)), rfl, H⟩
      · replace H := ifF H hb9
        refine Ok.exit ?_
        refine Ok.seq ?_
        refine Ok.region (σ' := ⟨[(4, (.v (.bool true)))], []⟩) ?_ ?_
        · refine .cv (VOk.asg (d := (.v (.bool true))) rfl rfl) rfl rfl ?_
          exact .done (.rf rfl rfl)
        refine Ok.ret ?_
        obtain rfl := Option.some.inj H
        exact ⟨.inl rfl, ⟨_, (.cons (.tmp rfl) .nil), rfl⟩, trivial⟩

/-! watchbill/watchbilllaw17.ServicesDecode: function 3 -/
def watchbilllaw17_ServicesDecode (k : Nat) (a0 : T_api_Node) (a1 : Str) : Option Bool := ((watchbilllaw17_awake k).bind fun (t1 : Bool) => (if (!t1) = true then some false else ((watchbilllaw04_Few k a0).bind fun (t3 : Bool) => (if (!t3) = true then some true else ((services_Decode k a0).bind fun (t5 : (List T_api_Service) × Int) => ((watchbillref17_Decode k a0).bind fun (t7 : (List T_api_Service) × Int) => ((services_Find k t5.1 a1).bind fun (t9 : T_api_Service × Bool) => ((watchbillref17_Find k t7.1 a1).bind fun (t11 : T_api_Service × Bool) => ((watchbillref17_Same k t5.1 t7.1).bind fun (t13 : Bool) => (((if ((t13 && (t5.2 == t7.2)) == true) = true then services_Check k a0 else some default)).bind fun (t18 : Int) => (((if (((t13 && (t5.2 == t7.2)) && (t18 == t5.2)) == true) = true then watchbillref17_One k t9.1 t11.1 else some default)).bind fun (t22 : Bool) => some ((((t13 && (t5.2 == t7.2)) && (t18 == t5.2)) && t22) && (t9.2 == t11.2)))))))))))))
theorem watchbilllaw17_ServicesDecode.ok {k : Nat} {a0 : T_api_Node} {a1 : Str} {r : Bool} (H : watchbilllaw17_ServicesDecode k a0 a1 = some r) : Vx.Fn Try.prog 3 [(.agg (e_api_Node a0)), (S a1)] [] (.v (.bool r)) [] := by
  unfold watchbilllaw17_ServicesDecode at H
  refine Vx.Fn.of_okR Try.func3 rfl (Nat.le_of_ble_eq_true rfl) ?_
  refine Ok.seq ?_
  refine Ok.region (σ' := ⟨[(1, (S a1)), (2, (.bref 2 0))], [(2, (.box .ex (c_api_Node a0)))]⟩) ?_ ?_
  · refine OpsOk.cut1 0 (.agg [(.v (.int .i64 a0.Kind)), (S a0.Name.Space), (S a0.Name.Local), (L 3 e_api_Attr a0.Attrs), (L 6 e_api_Node a0.Kids), (S a0.Text)]) (DLe.of_eq (congrArg D.agg (e_api_Node_c _).symm)) ?_
    refine OpsOk.cons rfl (OpOk.box 2 (cells := [(.v (.int .i64 a0.Kind)), (S a0.Name.Space), (S a0.Name.Local), (L 3 e_api_Attr a0.Attrs), (L 6 e_api_Node a0.Kids), (S a0.Text)]) rfl rfl rfl rfl) ?_
    refine .cv (VOk.asg (d := (.v (.bool false))) rfl rfl) rfl rfl ?_
    exact .done (.rf rfl rfl)
  refine Ok.seq ?_
  refine Ok.seq ?_
  obtain ⟨t1, h2, H⟩ := bindE H
  refine Ok.region (σ' := ⟨[(1, (S a1)), (2, (.bref 2 0)), (14, (.v (.bool (!t1))))], [(2, (.box .ex (c_api_Node a0)))]⟩) ?_ ?_
  · refine .cg (GOk.call rfl rfl cl8 rfl (watchbilllaw17_awake.ok h2) rfl) rfl rfl ?_
    refine .cv (VOk.not (b := t1) rfl rfl) rfl rfl ?_
    exact .done (.rf rfl rfl)
  refine Ok.test (b := (!t1)) rfl (fun hb28 => ?_) (fun hb28 => ?_)
  · replace H := ifT H hb28
    refine Ok.seq ?_
    refine Ok.region (σ' := ⟨[(4, (.v (.bool false)))], []⟩) ?_ ?_
    · refine .cv (VOk.asg (d := (.v (.bool false))) rfl rfl) rfl rfl ?_
      exact .done (.rf rfl rfl)
    refine Ok.ret ?_
    obtain rfl := Option.some.inj H
    exact ⟨.inl rfl, ⟨_, (.cons (.tmp rfl) .nil), rfl⟩, trivial⟩
  · replace H := ifF H hb28
    refine Ok.skip ?_
    refine Ok.seq ?_
    refine Ok.seq ?_
    obtain ⟨t3, h4, H⟩ := bindE H
    refine Ok.region (σ' := ⟨[(1, (S a1)), (2, (.bref 2 0)), (17, (.v (.bool (!t3))))], [(2, (.box .ex (c_api_Node a0)))]⟩) ?_ ?_
    · refine .cv (VOk.to (d' := (.agg (e_api_Node a0))) (.loadBAgg rfl Try.underlying27 rfl sz27 rfl rfl rfl) (congrArg D.agg (e_api_Node_c a0).symm)) rfl rfl ?_
      refine .cg (GOk.call rfl rfl cl9 rfl (watchbilllaw04_Few.ok h4) rfl) rfl rfl ?_
      refine .cv (VOk.not (b := t3) rfl rfl) rfl rfl ?_
      exact .done (.rf rfl rfl)
    refine Ok.test (b := (!t3)) rfl (fun hb27 => ?_) (fun hb27 => ?_)
    · replace H := ifT H hb27
      refine Ok.seq ?_
      refine Ok.region (σ' := ⟨[(4, (.v (.bool true)))], []⟩) ?_ ?_
      · refine .cv (VOk.asg (d := (.v (.bool true))) rfl rfl) rfl rfl ?_
        exact .done (.rf rfl rfl)
      refine Ok.ret ?_
      obtain rfl := Option.some.inj H
      exact ⟨.inl rfl, ⟨_, (.cons (.tmp rfl) .nil), rfl⟩, trivial⟩
    · replace H := ifF H hb27
      refine Ok.skip ?_
      refine Ok.seq ?_
      obtain ⟨t5, h6, H⟩ := bindE H
      refine Ok.region (σ' := ⟨[(1, (S a1)), (2, (.bref 2 0)), (5, (L 5 e_api_Service t5.1)), (6, (.v (.int .i64 t5.2)))], [(2, (.box .ex (c_api_Node a0)))]⟩) ?_ ?_
      · refine .cv (VOk.to (d' := (.agg (e_api_Node a0))) (.loadBAgg rfl Try.underlying27 rfl sz27 rfl rfl rfl) (congrArg D.agg (e_api_Node_c a0).symm)) rfl rfl ?_
        refine .cg (GOk.call rfl rfl cl10 rfl (services_Decode.ok h6) rfl) rfl rfl ?_
        refine .cv (VOk.mv (d := (.tup [(L 5 e_api_Service t5.1), (.v (.int .i64 t5.2))])) rfl rfl) rfl rfl ?_
        refine .cv (VOk.extract (d := (L 5 e_api_Service t5.1)) rfl rfl rfl) rfl rfl ?_
        refine .cv (VOk.extract (d := (.v (.int .i64 t5.2))) rfl rfl rfl) rfl rfl ?_
        refine .cv (VOk.asg (d := (L 5 e_api_Service t5.1)) rfl rfl) rfl rfl ?_
        refine .cv (VOk.asg (d := (.v (.int .i64 t5.2))) rfl rfl) rfl rfl ?_
        exact .done (.rf rfl rfl)
      refine Ok.seq ?_
      obtain ⟨t7, h8, H⟩ := bindE H
      refine Ok.region (σ' := ⟨[(1, (S a1)), (2, (.bref 2 0)), (5, (L 5 e_api_Service t5.1)), (6, (.v (.int .i64 t5.2))), (7, (L 5 e_api_Service t7.1)), (8, (.v (.int .i64 t7.2)))], [(2, (.box .ex (c_api_Node a0)))]⟩) ?_ ?_
      · refine .cv (VOk.to (d' := (.agg (e_api_Node a0))) (.loadBAgg rfl Try.underlying27 rfl sz27 rfl rfl rfl) (congrArg D.agg (e_api_Node_c a0).symm)) rfl rfl ?_
        refine .cg (GOk.call rfl rfl cl11 rfl (watchbillref17_Decode.ok h8) rfl) rfl rfl ?_
        refine .cv (VOk.mv (d := (.tup [(L 5 e_api_Service t7.1), (.v (.int .i64 t7.2))])) rfl rfl) rfl rfl ?_
        refine .cv (VOk.extract (d := (L 5 e_api_Service t7.1)) rfl rfl rfl) rfl rfl ?_
        refine .cv (VOk.extract (d := (.v (.int .i64 t7.2))) rfl rfl rfl) rfl rfl ?_
        refine .cv (VOk.asg (d := (L 5 e_api_Service t7.1)) rfl rfl) rfl rfl ?_
        refine .cv (VOk.asg (d := (.v (.int .i64 t7.2))) rfl rfl) rfl rfl ?_
        exact .done (.rf rfl rfl)
      refine Ok.seq ?_
      obtain ⟨t9, h10, H⟩ := bindE H
      refine Ok.region (σ' := ⟨[(1, (S a1)), (2, (.bref 2 0)), (5, (L 5 e_api_Service t5.1)), (6, (.v (.int .i64 t5.2))), (7, (L 5 e_api_Service t7.1)), (8, (.v (.int .i64 t7.2))), (9, (.bref 9 0)), (10, (.v (.bool t9.2)))], [(2, (.box .ex (c_api_Node a0))), (9, (.box .ex (c_api_Service t9.1)))]⟩) ?_ ?_
      · refine .cv (VOk.mv (d := (L 5 e_api_Service t5.1)) rfl rfl) rfl rfl ?_
        refine .cv (VOk.mv (d := (S a1)) rfl rfl) rfl rfl ?_
        refine .cg (GOk.call rfl rfl cl12 rfl (services_Find.ok h10) rfl) rfl rfl ?_
        refine .cv (VOk.mv (d := (.tup [(.agg (e_api_Service t9.1)), (.v (.bool t9.2))])) rfl rfl) rfl rfl ?_
        refine .cv (VOk.extract (d := (.agg (e_api_Service t9.1))) rfl rfl rfl) rfl rfl ?_
        refine .cv (VOk.extract (d := (.v (.bool t9.2))) rfl rfl rfl) rfl rfl ?_
        refine OpsOk.cons rfl (OpOk.alloc 9 [none, some 4, none, none, some 1] rfl zo39 rfl rfl) ?_
        refine OpsOk.cons rfl (OpOk.to (σ2 := St.put ⟨_, (9, (.box .ex (c_api_Service t9.1))) :: _⟩ _ .junk) (.storeB rfl sz39 rfl rfl rfl rfl rfl rfl) rfl) ?_
        refine .cv (VOk.asg (d := (.v (.bool t9.2))) rfl rfl) rfl rfl ?_
        exact .done (.rf rfl rfl)
      refine Ok.seq ?_
      obtain ⟨t11, h12, H⟩ := bindE H
      refine Ok.region (σ' := ⟨[(2, (.bref 2 0)), (5, (L 5 e_api_Service t5.1)), (6, (.v (.int .i64 t5.2))), (7, (L 5 e_api_Service t7.1)), (8, (.v (.int .i64 t7.2))), (9, (.bref 9 0)), (10, (.v (.bool t9.2))), (11, (.bref 11 0)), (12, (.v (.bool t11.2)))], [(2, (.box .ex (c_api_Node a0))), (9, (.box .ex (c_api_Service t9.1))), (11, (.box .ex (c_api_Service t11.1)))]⟩) ?_ ?_
      · refine .cv (VOk.mv (d := (L 5 e_api_Service t7.1)) rfl rfl) rfl rfl ?_
        refine .cv (VOk.mv (d := (S a1)) rfl rfl) rfl rfl ?_
        refine .cg (GOk.call rfl rfl cl13 rfl (watchbillref17_Find.ok h12) rfl) rfl rfl ?_
        refine .cv (VOk.mv (d := (.tup [(.agg (e_api_Service t11.1)), (.v (.bool t11.2))])) rfl rfl) rfl rfl ?_
        refine .cv (VOk.extract (d := (.agg (e_api_Service t11.1))) rfl rfl rfl) rfl rfl ?_
        refine .cv (VOk.extract (d := (.v (.bool t11.2))) rfl rfl rfl) rfl rfl ?_
        refine OpsOk.cons rfl (OpOk.alloc 11 [none, some 4, none, none, some 1] rfl zo39 rfl rfl) ?_
        refine OpsOk.cons rfl (OpOk.to (σ2 := St.put ⟨_, (11, (.box .ex (c_api_Service t11.1))) :: _⟩ _ .junk) (.storeB rfl sz39 rfl rfl rfl rfl rfl rfl) rfl) ?_
        refine .cv (VOk.asg (d := (.v (.bool t11.2))) rfl rfl) rfl rfl ?_
        exact .done (.rf rfl rfl)
      refine Ok.seq ?_
      obtain ⟨t13, h14, H⟩ := bindE H
      obtain ⟨t18, h19, H⟩ := bindE H
      obtain ⟨t22, h23, H⟩ := bindE H
      refine Ok.region (σ' := ⟨[(4, (.v (.bool ((((t13 && (t5.2 == t7.2)) && (t18 == t5.2)) && t22) && (t9.2 == t11.2)))))], []⟩) ?_ ?_
      · refine .cv (VOk.mv (d := (L 5 e_api_Service t5.1)) rfl rfl) rfl rfl ?_
        refine .cv (VOk.mv (d := (L 5 e_api_Service t7.1)) rfl rfl) rfl rfl ?_
        refine .cg (GOk.call rfl rfl cl14 rfl (watchbillref17_Same.ok h14) rfl) rfl rfl ?_
        refine .cv (VOk.mv (d := (.v (.bool t13))) rfl rfl) rfl rfl ?_
        refine OpsOk.consI rfl rfl rfl (.one rfl) rfl (fun hw15 => (VOk.g (VOk.mv (d := (.v (.int .i64 t5.2))) rfl rfl))) ?_
        refine OpsOk.consI rfl rfl rfl (.one rfl) rfl (fun hw15 => (VOk.g (VOk.mv (d := (.v (.int .i64 t7.2))) rfl rfl))) ?_
        refine OpsOk.consI rfl rfl rfl (.one rfl) rfl (fun hw15 => (GOk.fr (fr' := [(44, (.v (.int .i64 t5.2))), (45, (.v (.int .i64 t7.2)))]) ⟨DLe.of_eq (cT hw15).symm, DLe.of_eq (cT hw15).symm, trivial⟩ (VOk.g (VOk.arith (op := .eql) (k := .i64) (a := t5.2) (b := t7.2) rfl rfl rfl rfl)))) ?_
        refine .cv (VOk.to (VOk.pickI (b := t13) (p := (t5.2 == t7.2)) (q := false) rfl rfl (fun hp16 => (cT (t_beq hp16))) (fun hp16 => rfl)) (pickAnd t13 (t5.2 == t7.2))) rfl rfl ?_
        refine .cv (VOk.mv (d := (.v (.bool (t13 && (t5.2 == t7.2))))) rfl rfl) rfl rfl ?_
        refine OpsOk.consI rfl rfl rfl (.one rfl) rfl (fun hw17 => (VOk.g (VOk.to (d' := (.agg (e_api_Node a0))) (.loadBAgg rfl Try.underlying27 rfl sz27 rfl rfl rfl) (congrArg D.agg (e_api_Node_c a0).symm)))) ?_
        refine OpsOk.consI rfl rfl rfl (.one rfl) rfl (fun hw17 => (GOk.fr (fr' := [(49, (.agg (e_api_Node a0)))]) ⟨DLe.of_eq (cT hw17).symm, trivial⟩ (GOk.call rfl rfl cl15 rfl (services_Check.ok (ifT h19 hw17)) rfl))) ?_
        refine OpsOk.consI rfl rfl rfl (.one rfl) rfl (fun hw17 => (VOk.g (VOk.mv (d := (.v (.int .i64 t5.2))) rfl rfl))) ?_
        refine OpsOk.consI rfl rfl rfl (.one rfl) rfl (fun hw17 => (GOk.fr (fr' := [(50, (.v (.int .i64 t18))), (51, (.v (.int .i64 t5.2)))]) ⟨DLe.of_eq (cT hw17).symm, DLe.of_eq (cT hw17).symm, trivial⟩ (VOk.g (VOk.arith (op := .eql) (k := .i64) (a := t18) (b := t5.2) rfl rfl rfl rfl)))) ?_
        refine .cv (VOk.to (VOk.pickI (b := (t13 && (t5.2 == t7.2))) (p := (t18 == t5.2)) (q := false) rfl rfl (fun hp20 => (cT (t_beq hp20))) (fun hp20 => rfl)) (pickAnd (t13 && (t5.2 == t7.2)) (t18 == t5.2))) rfl rfl ?_
        refine .cv (VOk.mv (d := (.v (.bool ((t13 && (t5.2 == t7.2)) && (t18 == t5.2))))) rfl rfl) rfl rfl ?_
        refine OpsOk.consI rfl rfl rfl (.one rfl) rfl (fun hw21 => (VOk.g (VOk.to (d' := (.agg (e_api_Service t9.1))) (.loadBAgg rfl Try.underlying39 rfl sz39 rfl rfl rfl) rfl))) ?_
        refine OpsOk.consI rfl rfl rfl (.one rfl) rfl (fun hw21 => (VOk.g (VOk.to (d' := (.agg (e_api_Service t11.1))) (.loadBAgg rfl Try.underlying39 rfl sz39 rfl rfl rfl) rfl))) ?_
        refine OpsOk.consI rfl rfl rfl (.one rfl) rfl (fun hw21 => (GOk.fr (fr' := [(55, (.agg (e_api_Service t9.1))), (56, (.agg (e_api_Service t11.1)))]) ⟨DLe.of_eq (cT hw21).symm, DLe.of_eq (cT hw21).symm, trivial⟩ (GOk.call rfl rfl cl16 rfl (watchbillref17_One.ok (ifT h23 hw21)) rfl))) ?_
        refine .cv (VOk.to (VOk.pickI (b := ((t13 && (t5.2 == t7.2)) && (t18 == t5.2))) (p := t22) (q := false) rfl rfl (fun hp24 => (cT (t_beq hp24))) (fun hp24 => rfl)) (pickAnd ((t13 && (t5.2 == t7.2)) && (t18 == t5.2)) t22)) rfl rfl ?_
        refine .cv (VOk.mv (d := (.v (.bool (((t13 && (t5.2 == t7.2)) && (t18 == t5.2)) && t22)))) rfl rfl) rfl rfl ?_
        refine OpsOk.consI rfl rfl rfl (.one rfl) rfl (fun hw25 => (VOk.g (VOk.mv (d := (.v (.bool t9.2))) rfl rfl))) ?_
        refine OpsOk.consI rfl rfl rfl (.one rfl) rfl (fun hw25 => (VOk.g (VOk.mv (d := (.v (.bool t11.2))) rfl rfl))) ?_
        refine OpsOk.consI rfl rfl rfl (.one rfl) rfl (fun hw25 => (GOk.fr (fr' := [(60, (.v (.bool t9.2))), (61, (.v (.bool t11.2)))]) ⟨DLe.of_eq (cT hw25).symm, DLe.of_eq (cT hw25).symm, trivial⟩ (VOk.g (VOk.eqB (op := .eql) (p := t9.2) (q := t11.2) rfl (.inl rfl) Try.underlying4 rfl rfl)))) ?_
        refine .cv (VOk.to (VOk.pickI (b := (((t13 && (t5.2 == t7.2)) && (t18 == t5.2)) && t22)) (p := (t9.2 == t11.2)) (q := false) rfl rfl (fun hp26 => (cT (t_beq hp26))) (fun hp26 => rfl)) (pickAnd (((t13 && (t5.2 == t7.2)) && (t18 == t5.2)) && t22) (t9.2 == t11.2))) rfl rfl ?_
        refine .cv (VOk.asg (d := (.v (.bool ((((t13 && (t5.2 == t7.2)) && (t18 == t5.2)) && t22) && (t9.2 == t11.2))))) rfl rfl) rfl rfl ?_
        exact .done (.rf rfl rfl)
      refine Ok.ret ?_
      obtain rfl := Option.some.inj H
      exact ⟨.inl rfl, ⟨_, (.cons (.tmp rfl) .nil), rfl⟩, trivial⟩

end Go.Proofs.Ytannhioamkkdnaa.Sh
