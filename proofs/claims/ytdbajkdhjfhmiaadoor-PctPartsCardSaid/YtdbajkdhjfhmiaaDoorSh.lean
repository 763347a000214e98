import Derived.Test.YtdbajkdhjfhmiaaDoorProg
import Derived.Test.YtdbajkdhjfhmiaaDoorSha
namespace Go.Proofs.YtdbajkdhjfhmiaaDoor.Sh
open Go Go.RowKit Go.Proofs.Vx
set_option linter.unusedVariables false

set_option maxRecDepth 100000
set_option maxHeartbeats 1000000
/-! watchbill/watchbilllaw09.PctBack: function 4 -/
def watchbilllaw09_PctBack.l2 (k : Nat) (c1 : Int → Option Bool) (a0 : Str) (a1 : Str) (t10 : Str) (x7_12 : Int) : Nat → Bool → Int → Option Bool
  | 0, _, _ => none
  | m25 + 1, x8_21, x9_22 => (if (decide (x9_22 < (a1.length : Int))) = true then (if ((x8_21 == false) = true → (0 : Int) ≤ x9_22 ∧ x9_22 < (a1.length : Int)) then (if ((x8_21 == false) = true → (0 : Int) ≤ x7_12 ∧ x7_12 < (t10.length : Int)) then watchbilllaw09_PctBack.l2 k c1 a0 a1 t10 x7_12 m25 (x8_21 || ((bt a1 x9_22) == (bt t10 x7_12))) (IntKind.i64.wrap (x9_22 + 1)) else none) else none) else (if (!x8_21) = true then some false else c1 (IntKind.i64.wrap (x7_12 + 1))))
def watchbilllaw09_PctBack.l1 (k : Nat) (a0 : Str) (a1 : Str) (t10 : Str) : Nat → Int → Option Bool
  | 0, _ => none
  | m14 + 1, x7_12 => (if (decide (x7_12 < (t10.length : Int))) = true then (if (0 : Int) ≤ x7_12 ∧ x7_12 < (t10.length : Int) then ((watchbillref09_Plain (bt t10 x7_12)).bind fun (t16 : Bool) => (if ((t16 == false) = true → (0 : Int) ≤ x7_12 ∧ x7_12 < (t10.length : Int)) then watchbilllaw09_PctBack.l2 k (watchbilllaw09_PctBack.l1 k a0 a1 t10 m14) a0 a1 t10 x7_12 k (t16 || ((bt t10 x7_12) == 37)) 0 else none)) else none) else ((pct_Decode k t10).bind fun (t32 : Str × Int) => ((utf_Check k a0).bind fun (t34 : Int) => (if (decide (t34 ≥ 0)) = true then some ((t32.1 == ([] : Str)) && (t32.2 == 10)) else ((pct_Encode k t10 a1).bind fun (t38 : Str) => ((pct_Decode k t38).bind fun (t40 : Str × Int) => some ((((t32.1 == a0) && (t32.2 == 0)) && (t40.1 == t10)) && (t40.2 == 0))))))))
def watchbilllaw09_PctBack.l0 (k : Nat) (a0 : Str) (a1 : Str) : Nat → Int → Option Bool
  | 0, _ => none
  | m7 + 1, x5_5 => (if (decide (x5_5 < (a1.length : Int))) = true then (if (0 : Int) ≤ x5_5 ∧ x5_5 < (a1.length : Int) then (if (decide ((bt a1 x5_5) > 127)) = true then some true else watchbilllaw09_PctBack.l0 k a0 a1 m7 (IntKind.i64.wrap (x5_5 + 1))) else none) else ((pct_Encode k a0 a1).bind fun (t10 : Str) => watchbilllaw09_PctBack.l1 k a0 a1 t10 k 0))
def watchbilllaw09_PctBack (k : Nat) (a0 : Str) (a1 : Str) : Option Bool := ((watchbilllaw09_awake k).bind fun (t1 : Bool) => (if (!t1) = true then some false else (if ((decide ((a0.length : Int) > 5000)) || (decide ((a1.length : Int) > 1000))) = true then some true else watchbilllaw09_PctBack.l0 k a0 a1 k 0)))
theorem watchbilllaw09_PctBack.ok {k : Nat} {a0 : Str} {a1 : Str} {r : Bool} (H : watchbilllaw09_PctBack k a0 a1 = some r) : Vx.Fn Tryd.prog 4 [(S a0), (S a1)] [] (.v (.bool r)) [] := by
  unfold watchbilllaw09_PctBack at H
  refine Vx.Fn.of_okR Tryd.func4 rfl (Nat.le_of_ble_eq_true rfl) ?_
  refine Ok.seq ?_
  refine Ok.region (σ' := ⟨[(0, (S a0)), (1, (S a1))], []⟩) ?_ ?_
  · refine .cv (VOk.asg (d := (.v (.bool false))) rfl rfl) rfl rfl ?_
    exact .done (.rf rfl rfl)
  refine Ok.seq ?_
  refine Ok.seq ?_
  obtain ⟨t1, h2, H⟩ := bindE H
  refine Ok.region (σ' := ⟨[(0, (S a0)), (1, (S a1)), (15, (.v (.bool (!t1))))], []⟩) ?_ ?_
  · refine .cg (GOk.call rfl rfl cl7 rfl (watchbilllaw09_awake.ok h2) rfl) rfl rfl ?_
    refine .cv (VOk.not (b := t1) rfl rfl) rfl rfl ?_
    exact .done (.rf rfl rfl)
  refine Ok.test (b := (!t1)) rfl (fun hb52 => ?_) (fun hb52 => ?_)
  · replace H := ifT H hb52
    refine Ok.seq ?_
    refine Ok.region (σ' := ⟨[(4, (.v (.bool false)))], []⟩) ?_ ?_
    · refine .cv (VOk.asg (d := (.v (.bool false))) rfl rfl) rfl rfl ?_
      exact .done (.rf rfl rfl)
    refine Ok.ret ?_
    obtain rfl := Option.some.inj H
    exact ⟨.inl rfl, ⟨_, (.cons (.tmp rfl) .nil), rfl⟩, trivial⟩
  · replace H := ifF H hb52
    refine Ok.skip ?_
    refine Ok.seq ?_
    refine Ok.seq ?_
    refine Ok.region (σ' := ⟨[(0, (S a0)), (1, (S a1)), (23, (.v (.bool ((decide ((a0.length : Int) > 5000)) || (decide ((a1.length : Int) > 1000))))))], []⟩) ?_ ?_
    · refine .cv (VOk.mv (d := (S a0)) rfl rfl) rfl rfl ?_
      refine .cv (VOk.lenStr (s := a0) rfl Tryd.underlying9 rfl) rfl rfl ?_
      refine .cv (VOk.arith (op := .gtr) (k := .i64) (a := (a0.length : Int)) (b := 5000) rfl rfl rfl rfl) rfl rfl ?_
      refine .cv (VOk.mv (d := (.v (.bool (decide ((a0.length : Int) > 5000))))) rfl rfl) rfl rfl ?_
      refine OpsOk.consI rfl rfl rfl (.one rfl) rfl (fun hw3 => (VOk.g (VOk.mv (d := (S a1)) rfl rfl))) ?_
      refine OpsOk.consI rfl rfl rfl (.one rfl) rfl (fun hw3 => (GOk.fr (fr' := [(20, (S a1))]) ⟨DLe.of_eq (cT hw3).symm, trivial⟩ (VOk.g (VOk.lenStr (s := a1) rfl Tryd.underlying9 rfl)))) ?_
      refine OpsOk.consI rfl rfl rfl (.one rfl) rfl (fun hw3 => (GOk.fr (fr' := [(21, (.v (.int .i64 (a1.length : Int))))]) ⟨DLe.of_eq (cT hw3).symm, trivial⟩ (VOk.g (VOk.arith (op := .gtr) (k := .i64) (a := (a1.length : Int)) (b := 1000) rfl rfl rfl rfl)))) ?_
      refine .cv (VOk.to (VOk.pickI (b := (decide ((a0.length : Int) > 5000))) (p := true) (q := (decide ((a1.length : Int) > 1000))) rfl rfl (fun hp4 => rfl) (fun hp4 => (cT (f_beq hp4)))) (pickOr (decide ((a0.length : Int) > 5000)) (decide ((a1.length : Int) > 1000)))) rfl rfl ?_
      exact .done (.rf rfl rfl)
    refine Ok.test (b := ((decide ((a0.length : Int) > 5000)) || (decide ((a1.length : Int) > 1000)))) rfl (fun hb51 => ?_) (fun hb51 => ?_)
    · replace H := ifT H hb51
      refine Ok.seq ?_
      refine Ok.region (σ' := ⟨[(4, (.v (.bool true)))], []⟩) ?_ ?_
      · refine .cv (VOk.asg (d := (.v (.bool true))) rfl rfl) rfl rfl ?_
        exact .done (.rf rfl rfl)
      refine Ok.ret ?_
      obtain rfl := Option.some.inj H
      exact ⟨.inl rfl, ⟨_, (.cons (.tmp rfl) .nil), rfl⟩, trivial⟩
    · replace H := ifF H hb51
      refine Ok.skip ?_
      refine Ok.seq ?_
      refine Ok.seq ?_
      refine Ok.region (σ' := ⟨[(0, (S a0)), (1, (S a1)), (5, (.v (.int .i64 0)))], []⟩) ?_ ?_
      · refine .cv (VOk.asg (d := (.v (.int .i64 0))) rfl rfl) rfl rfl ?_
        exact .done (.rf rfl rfl)
      refine Ok.block ?_
      refine Ok.le (σ' := ⟨[(0, (S a0)), (1, (S a1)), (5, (.v (.int .i64 0)))], []⟩) (.rf rfl rfl) ?_
      refine Ok.loop (fun m7 σ => ∃ (x5_5 : Int), σ = ⟨[(0, (S a0)), (1, (S a1)), (5, (.v (.int .i64 x5_5)))], []⟩ ∧ watchbilllaw09_PctBack.l0 k a0 a1 m7 x5_5 = some r) k ⟨0, rfl, H⟩ ?_
      rintro m7 σ ⟨x5_5, rfl, H⟩
      cases m7 with
      | zero => exact absurd H (by simp [watchbilllaw09_PctBack.l0])
      | succ m7 =>
        unfold watchbilllaw09_PctBack.l0 at H
        refine Ok.seq ?_
        refine Ok.seq ?_
        refine Ok.region (σ' := ⟨[(0, (S a0)), (1, (S a1)), (5, (.v (.int .i64 x5_5))), (27, (.v (.bool (decide (x5_5 < (a1.length : Int))))))], []⟩) ?_ ?_
        · refine .cv (VOk.mv (d := (.v (.int .i64 x5_5))) rfl rfl) rfl rfl ?_
          refine .cv (VOk.mv (d := (S a1)) rfl rfl) rfl rfl ?_
          refine .cv (VOk.lenStr (s := a1) rfl Tryd.underlying9 rfl) rfl rfl ?_
          refine .cv (VOk.arith (op := .lss) (k := .i64) (a := x5_5) (b := (a1.length : Int)) rfl rfl rfl rfl) rfl rfl ?_
          exact .done (.rf rfl rfl)
        refine Ok.test (b := (decide (x5_5 < (a1.length : Int)))) rfl (fun hb50 => ?_) (fun hb50 => ?_)
        · replace H := ifT H hb50
          refine Ok.skip ?_
          refine Ok.seq ?_
          refine Ok.block ?_
          refine Ok.seq ?_
          obtain ⟨c8, H⟩ := assertE H
          refine Ok.region (σ' := ⟨[(0, (S a0)), (1, (S a1)), (5, (.v (.int .i64 x5_5))), (33, (.v (.bool (decide ((bt a1 x5_5) > 127)))))], []⟩) ?_ ?_
          · refine .cv (VOk.mv (d := (S a1)) rfl rfl) rfl rfl ?_
            refine .cv (VOk.mv (d := (.v (.int .i64 x5_5))) rfl rfl) rfl rfl ?_
            refine .cv (VOk.indexStr (s := a1) (i := x5_5) rfl Tryd.underlying9 rfl rfl c8) rfl rfl ?_
            refine .cv (VOk.arith (op := .gtr) (k := .u8) (a := (bt a1 x5_5)) (b := 127) rfl rfl rfl rfl) rfl rfl ?_
            exact .done (.rf rfl rfl)
          refine Ok.test (b := (decide ((bt a1 x5_5) > 127))) rfl (fun hb9 => ?_) (fun hb9 => ?_)
          · replace H := ifT H hb9
            refine Ok.seq ?_
            refine Ok.region (σ' := ⟨[(4, (.v (.bool true)))], []⟩) ?_ ?_
            · refine .cv (VOk.asg (d := (.v (.bool true))) rfl rfl) rfl rfl ?_
              exact .done (.rf rfl rfl)
            refine Ok.ret ?_
            obtain rfl := Option.some.inj H
            exact ⟨.inl rfl, ⟨_, (.cons (.tmp rfl) .nil), rfl⟩, trivial⟩
          · replace H := ifF H hb9
            refine Ok.skip ?_
            refine Ok.region (σ' := ⟨[(0, (S a0)), (1, (S a1)), (5, (.v (.int .i64 (IntKind.i64.wrap (x5_5 + 1)))))], []⟩) ?_ ?_
            · refine .cv (VOk.mv (d := (.v (.int .i64 x5_5))) rfl rfl) rfl rfl ?_
              refine .cv (VOk.arith (op := .add) (k := .i64) (a := x5_5) (b := 1) rfl rfl rfl rfl) rfl rfl ?_
              refine .cv (VOk.asg (d := (.v (.int .i64 (IntKind.i64.wrap (x5_5 + 1))))) rfl rfl) rfl rfl ?_
              exact .done (.rf rfl rfl)
            exact ⟨m7, Nat.lt_succ_self m7, (IntKind.i64.wrap (x5_5 + 1)), rfl, H⟩
        · replace H := ifF H hb50
          refine Ok.exit ?_
          refine Ok.seq ?_
          obtain ⟨t10, h11, H⟩ := bindE H
          refine Ok.region (σ' := ⟨[(0, (S a0)), (1, (S a1)), (6, (S t10))], []⟩) ?_ ?_
          · refine .cv (VOk.mv (d := (S a0)) rfl rfl) rfl rfl ?_
            refine .cv (VOk.mv (d := (S a1)) rfl rfl) rfl rfl ?_
            refine .cg (GOk.call rfl rfl cl10 rfl (pct_Encode.ok h11) rfl) rfl rfl ?_
            refine .cv (VOk.asg (d := (S t10)) rfl rfl) rfl rfl ?_
            exact .done (.rf rfl rfl)
          refine Ok.seq ?_
          refine Ok.seq ?_
          refine Ok.region (σ' := ⟨[(0, (S a0)), (1, (S a1)), (6, (S t10)), (7, (.v (.int .i64 0)))], []⟩) ?_ ?_
          · refine .cv (VOk.asg (d := (.v (.int .i64 0))) rfl rfl) rfl rfl ?_
            exact .done (.rf rfl rfl)
          refine Ok.block ?_
          refine Ok.le (σ' := ⟨[(0, (S a0)), (1, (S a1)), (6, (S t10)), (7, (.v (.int .i64 0)))], []⟩) (.rf rfl rfl) ?_
          refine Ok.loop (fun m14 σ => ∃ (x7_12 : Int), σ = ⟨[(0, (S a0)), (1, (S a1)), (6, (S t10)), (7, (.v (.int .i64 x7_12)))], []⟩ ∧ watchbilllaw09_PctBack.l1 k a0 a1 t10 m14 x7_12 = some r) k ⟨0, rfl, H⟩ ?_
          rintro m14 σ ⟨x7_12, rfl, H⟩
          cases m14 with
          | zero => exact absurd H (by simp [watchbilllaw09_PctBack.l1])
          | succ m14 =>
            unfold watchbilllaw09_PctBack.l1 at H
            refine Ok.seq ?_
            refine Ok.seq ?_
            refine Ok.region (σ' := ⟨[(0, (S a0)), (1, (S a1)), (6, (S t10)), (7, (.v (.int .i64 x7_12))), (40, (.v (.bool (decide (x7_12 < (t10.length : Int))))))], []⟩) ?_ ?_
            · refine .cv (VOk.mv (d := (.v (.int .i64 x7_12))) rfl rfl) rfl rfl ?_
              refine .cv (VOk.mv (d := (S t10)) rfl rfl) rfl rfl ?_
              refine .cv (VOk.lenStr (s := t10) rfl Tryd.underlying9 rfl) rfl rfl ?_
              refine .cv (VOk.arith (op := .lss) (k := .i64) (a := x7_12) (b := (t10.length : Int)) rfl rfl rfl rfl) rfl rfl ?_
              exact .done (.rf rfl rfl)
            refine Ok.test (b := (decide (x7_12 < (t10.length : Int)))) rfl (fun hb49 => ?_) (fun hb49 => ?_)
            · replace H := ifT H hb49
              refine Ok.skip ?_
              refine Ok.seq ?_
              refine Ok.block ?_
              refine Ok.seq ?_
              obtain ⟨c15, H⟩ := assertE H
              obtain ⟨t16, h17, H⟩ := bindE H
              obtain ⟨c19, H⟩ := assertE H
              refine Ok.region (σ' := ⟨[(0, (S a0)), (1, (S a1)), (6, (S t10)), (7, (.v (.int .i64 x7_12))), (8, (.v (.bool (t16 || ((bt t10 x7_12) == 37)))))], []⟩) ?_ ?_
              · refine .cv (VOk.mv (d := (S t10)) rfl rfl) rfl rfl ?_
                refine .cv (VOk.mv (d := (.v (.int .i64 x7_12))) rfl rfl) rfl rfl ?_
                refine .cv (VOk.indexStr (s := t10) (i := x7_12) rfl Tryd.underlying9 rfl rfl c15) rfl rfl ?_
                refine .cg (GOk.call rfl rfl cl12 rfl (watchbillref09_Plain.ok h17) rfl) rfl rfl ?_
                refine .cv (VOk.mv (d := (.v (.bool t16))) rfl rfl) rfl rfl ?_
                refine OpsOk.consI rfl rfl rfl (.one rfl) rfl (fun hw18 => (VOk.g (VOk.mv (d := (S t10)) rfl rfl))) ?_
                refine OpsOk.consI rfl rfl rfl (.one rfl) rfl (fun hw18 => (VOk.g (VOk.mv (d := (.v (.int .i64 x7_12))) rfl rfl))) ?_
                refine OpsOk.consI rfl rfl rfl (.one rfl) rfl (fun hw18 => (GOk.fr (fr' := [(48, (S t10)), (49, (.v (.int .i64 x7_12)))]) ⟨DLe.of_eq (cT hw18).symm, DLe.of_eq (cT hw18).symm, trivial⟩ (VOk.g (VOk.indexStr (s := t10) (i := x7_12) rfl Tryd.underlying9 rfl rfl (c19 hw18))))) ?_
                refine OpsOk.consI rfl rfl rfl (.one rfl) rfl (fun hw18 => (GOk.fr (fr' := [(50, (.v (.int .u8 (bt t10 x7_12))))]) ⟨DLe.of_eq (cT hw18).symm, trivial⟩ (VOk.g (VOk.arith (op := .eql) (k := .u8) (a := (bt t10 x7_12)) (b := 37) rfl rfl rfl rfl)))) ?_
                refine .cv (VOk.to (VOk.pickI (b := t16) (p := true) (q := ((bt t10 x7_12) == 37)) rfl rfl (fun hp20 => rfl) (fun hp20 => (cT (f_beq hp20)))) (pickOr t16 ((bt t10 x7_12) == 37))) rfl rfl ?_
                refine .cv (VOk.asg (d := (.v (.bool (t16 || ((bt t10 x7_12) == 37))))) rfl rfl) rfl rfl ?_
                exact .done (.rf rfl rfl)
              refine Ok.seq ?_
              refine Ok.seq ?_
              refine Ok.region (σ' := ⟨[(0, (S a0)), (1, (S a1)), (6, (S t10)), (7, (.v (.int .i64 x7_12))), (8, (.v (.bool (t16 || ((bt t10 x7_12) == 37))))), (9, (.v (.int .i64 0)))], []⟩) ?_ ?_
              · refine .cv (VOk.asg (d := (.v (.int .i64 0))) rfl rfl) rfl rfl ?_
                exact .done (.rf rfl rfl)
              refine Ok.block ?_
              refine Ok.le (σ' := ⟨[(0, (S a0)), (1, (S a1)), (6, (S t10)), (7, (.v (.int .i64 x7_12))), (8, (.v (.bool (t16 || ((bt t10 x7_12) == 37))))), (9, (.v (.int .i64 0)))], []⟩) (.rf rfl rfl) ?_
              refine Ok.loop (fun m25 σ => ∃ (x8_21 : Bool) (x9_22 : Int), σ = ⟨[(0, (S a0)), (1, (S a1)), (6, (S t10)), (7, (.v (.int .i64 x7_12))), (8, (.v (.bool x8_21))), (9, (.v (.int .i64 x9_22)))], []⟩ ∧ watchbilllaw09_PctBack.l2 k (watchbilllaw09_PctBack.l1 k a0 a1 t10 m14) a0 a1 t10 x7_12 m25 x8_21 x9_22 = some r) k ⟨(t16 || ((bt t10 x7_12) == 37)), 0, rfl, H⟩ ?_
              rintro m25 σ ⟨x8_21, x9_22, rfl, H⟩
              cases m25 with
              | zero => exact absurd H (by simp [watchbilllaw09_PctBack.l2])
              | succ m25 =>
                unfold watchbilllaw09_PctBack.l2 at H
                refine Ok.seq ?_
                refine Ok.seq ?_
                refine Ok.region (σ' := ⟨[(0, (S a0)), (1, (S a1)), (6, (S t10)), (7, (.v (.int .i64 x7_12))), (8, (.v (.bool x8_21))), (9, (.v (.int .i64 x9_22))), (56, (.v (.bool (decide (x9_22 < (a1.length : Int))))))], []⟩) ?_ ?_
                · refine .cv (VOk.mv (d := (.v (.int .i64 x9_22))) rfl rfl) rfl rfl ?_
                  refine .cv (VOk.mv (d := (S a1)) rfl rfl) rfl rfl ?_
                  refine .cv (VOk.lenStr (s := a1) rfl Tryd.underlying9 rfl) rfl rfl ?_
                  refine .cv (VOk.arith (op := .lss) (k := .i64) (a := x9_22) (b := (a1.length : Int)) rfl rfl rfl rfl) rfl rfl ?_
                  exact .done (.rf rfl rfl)
                refine Ok.test (b := (decide (x9_22 < (a1.length : Int)))) rfl (fun hb31 => ?_) (fun hb31 => ?_)
                · replace H := ifT H hb31
                  refine Ok.skip ?_
                  refine Ok.seq ?_
                  refine Ok.block ?_
                  obtain ⟨c27, H⟩ := assertE H
                  obtain ⟨c28, H⟩ := assertE H
                  refine Ok.drawE (σ' := ⟨[(0, (S a0)), (1, (S a1)), (6, (S t10)), (7, (.v (.int .i64 x7_12))), (8, (.v (.bool (x8_21 || ((bt a1 x9_22) == (bt t10 x7_12)))))), (9, (.v (.int .i64 x9_22)))], []⟩) [⟨true, [(8, (.v (.bool x8_21)))], (.v (.bool x8_21))⟩, ⟨true, [(59, (.v (.bool x8_21)))], (.v (.bool x8_21))⟩, It.I (x8_21 == false) [(1, (S a1)), (60, (.v (.bool x8_21)))] (S a1), It.I (x8_21 == false) [(9, (.v (.int .i64 x9_22))), (60, (.v (.bool x8_21)))] (.v (.int .i64 x9_22)), It.I (x8_21 == false) [(61, (bif (x8_21 == false) then (S a1) else .v undef)), (62, (bif (x8_21 == false) then (.v (.int .i64 x9_22)) else .v undef)), (60, (.v (.bool x8_21)))] (.v (.int .u8 (bt a1 x9_22))), It.I (x8_21 == false) [(6, (S t10)), (60, (.v (.bool x8_21)))] (S t10), It.I (x8_21 == false) [(7, (.v (.int .i64 x7_12))), (60, (.v (.bool x8_21)))] (.v (.int .i64 x7_12)), It.I (x8_21 == false) [(64, (bif (x8_21 == false) then (S t10) else .v undef)), (65, (bif (x8_21 == false) then (.v (.int .i64 x7_12)) else .v undef)), (60, (.v (.bool x8_21)))] (.v (.int .u8 (bt t10 x7_12))), It.I (x8_21 == false) [(63, (bif (x8_21 == false) then (.v (.int .u8 (bt a1 x9_22))) else .v undef)), (66, (bif (x8_21 == false) then (.v (.int .u8 (bt t10 x7_12))) else .v undef)), (60, (.v (.bool x8_21)))] (.v (.bool ((bt a1 x9_22) == (bt t10 x7_12)))), ⟨true, [(60, (.v (.bool x8_21))), (67, (bif (x8_21 == false) then (.v (.bool ((bt a1 x9_22) == (bt t10 x7_12)))) else .v undef))], (.v (.bool (x8_21 || ((bt a1 x9_22) == (bt t10 x7_12)))))⟩, ⟨true, [(68, (.v (.bool (x8_21 || ((bt a1 x9_22) == (bt t10 x7_12))))))], (.v (.bool (x8_21 || ((bt a1 x9_22) == (bt t10 x7_12)))))⟩] [[], [0], [1], [1], [1, 2, 3], [1], [1], [1, 5, 6], [1, 4, 7], [1, 8], [0, 9]] mixed (by kernel_rfl) ?_ ?_
                  · refine TxtE.cons rfl ⟨.same _, trivial⟩ rfl (VOk.g (VOk.mv (d := (.v (.bool x8_21))) rfl rfl)) ?_
                    refine TxtE.cons rfl ⟨.same _, trivial⟩ rfl (VOk.g (VOk.mv (d := (.v (.bool x8_21))) rfl rfl)) ?_
                    refine TxtE.consI rfl ⟨.same _, .same _, trivial⟩ rfl rfl (.one rfl) (fun hw26 => (VOk.g (VOk.mv (d := (S a1)) rfl rfl))) ?_
                    refine TxtE.consI rfl ⟨.same _, .same _, trivial⟩ rfl rfl (.one rfl) (fun hw26 => (VOk.g (VOk.mv (d := (.v (.int .i64 x9_22))) rfl rfl))) ?_
                    refine TxtE.consI rfl ⟨.same _, .same _, .same _, trivial⟩ rfl rfl (.one rfl) (fun hw26 => (GOk.fr (fr' := [(61, (S a1)), (62, (.v (.int .i64 x9_22)))]) ⟨DLe.of_eq (cT hw26).symm, DLe.of_eq (cT hw26).symm, trivial⟩ (VOk.g (VOk.indexStr (s := a1) (i := x9_22) rfl Tryd.underlying9 rfl rfl (c27 hw26))))) ?_
                    refine TxtE.consI rfl ⟨.same _, .same _, trivial⟩ rfl rfl (.one rfl) (fun hw26 => (VOk.g (VOk.mv (d := (S t10)) rfl rfl))) ?_
                    refine TxtE.consI rfl ⟨.same _, .same _, trivial⟩ rfl rfl (.one rfl) (fun hw26 => (VOk.g (VOk.mv (d := (.v (.int .i64 x7_12))) rfl rfl))) ?_
                    refine TxtE.consI rfl ⟨.same _, .same _, .same _, trivial⟩ rfl rfl (.one rfl) (fun hw26 => (GOk.fr (fr' := [(64, (S t10)), (65, (.v (.int .i64 x7_12)))]) ⟨DLe.of_eq (cT hw26).symm, DLe.of_eq (cT hw26).symm, trivial⟩ (VOk.g (VOk.indexStr (s := t10) (i := x7_12) rfl Tryd.underlying9 rfl rfl (c28 hw26))))) ?_
                    refine TxtE.consI rfl ⟨.same _, .same _, .same _, trivial⟩ rfl rfl (.one rfl) (fun hw26 => (GOk.fr (fr' := [(63, (.v (.int .u8 (bt a1 x9_22)))), (66, (.v (.int .u8 (bt t10 x7_12))))]) ⟨DLe.of_eq (cT hw26).symm, DLe.of_eq (cT hw26).symm, trivial⟩ (VOk.g (VOk.arith (op := .eql) (k := .u8) (a := (bt a1 x9_22)) (b := (bt t10 x7_12)) rfl rfl rfl rfl)))) ?_
                    refine TxtE.cons rfl ⟨.same _, .same _, trivial⟩ rfl (VOk.g (VOk.to (VOk.pickI (b := x8_21) (p := true) (q := ((bt a1 x9_22) == (bt t10 x7_12))) rfl rfl (fun hp29 => rfl) (fun hp29 => (cT (f_beq hp29)))) (pickOr x8_21 ((bt a1 x9_22) == (bt t10 x7_12))))) ?_
                    refine TxtE.cons rfl ⟨.same _, trivial⟩ rfl (VOk.g (VOk.asg (d := (.v (.bool (x8_21 || ((bt a1 x9_22) == (bt t10 x7_12)))))) rfl rfl)) ?_
                    exact .done (.rf rfl rfl)
                  refine Ok.region (σ' := ⟨[(0, (S a0)), (1, (S a1)), (6, (S t10)), (7, (.v (.int .i64 x7_12))), (8, (.v (.bool (x8_21 || ((bt a1 x9_22) == (bt t10 x7_12)))))), (9, (.v (.int .i64 (IntKind.i64.wrap (x9_22 + 1)))))], []⟩) ?_ ?_
                  · refine .cv (VOk.mv (d := (.v (.int .i64 x9_22))) rfl rfl) rfl rfl ?_
                    refine .cv (VOk.arith (op := .add) (k := .i64) (a := x9_22) (b := 1) rfl rfl rfl rfl) rfl rfl ?_
                    refine .cv (VOk.asg (d := (.v (.int .i64 (IntKind.i64.wrap (x9_22 + 1))))) rfl rfl) rfl rfl ?_
                    exact .done (.rf rfl rfl)
                  exact ⟨m25, Nat.lt_succ_self m25, (x8_21 || ((bt a1 x9_22) == (bt t10 x7_12))), (IntKind.i64.wrap (x9_22 + 1)), rfl, H⟩
                · replace H := ifF H hb31
                  refine Ok.exit ?_
                  refine Ok.seq ?_
                  refine Ok.region (σ' := ⟨[(0, (S a0)), (1, (S a1)), (6, (S t10)), (7, (.v (.int .i64 x7_12))), (70, (.v (.bool (!x8_21))))], []⟩) ?_ ?_
                  · refine .cv (VOk.mv (d := (.v (.bool x8_21))) rfl rfl) rfl rfl ?_
                    refine .cv (VOk.not (b := x8_21) rfl rfl) rfl rfl ?_
                    exact .done (.rf rfl rfl)
                  refine Ok.test (b := (!x8_21)) rfl (fun hb30 => ?_) (fun hb30 => ?_)
                  · replace H := ifT H hb30
                    refine Ok.seq ?_
                    refine Ok.region (σ' := ⟨[(4, (.v (.bool false)))], []⟩) ?_ ?_
                    · refine .cv (VOk.asg (d := (.v (.bool false))) rfl rfl) rfl rfl ?_
                      exact .done (.rf rfl rfl)
                    refine Ok.ret ?_
                    obtain rfl := Option.some.inj H
                    exact ⟨.inl rfl, ⟨_, (.cons (.tmp rfl) .nil), rfl⟩, trivial⟩
                  · replace H := ifF H hb30
                    refine Ok.skip ?_
                    refine Ok.region (σ' := ⟨[(0, (S a0)), (1, (S a1)), (6, (S t10)), (7, (.v (.int .i64 (IntKind.i64.wrap (x7_12 + 1)))))], []⟩) ?_ ?_
                    · refine .cv (VOk.mv (d := (.v (.int .i64 x7_12))) rfl rfl) rfl rfl ?_
                      refine .cv (VOk.arith (op := .add) (k := .i64) (a := x7_12) (b := 1) rfl rfl rfl rfl) rfl rfl ?_
                      refine .cv (VOk.asg (d := (.v (.int .i64 (IntKind.i64.wrap (x7_12 + 1))))) rfl rfl) rfl rfl ?_
                      exact .done (.rf rfl rfl)
                    exact ⟨m14, Nat.lt_succ_self m14, (IntKind.i64.wrap (x7_12 + 1)), rfl, H⟩
            · replace H := ifF H hb49
              refine Ok.exit ?_
              refine Ok.seq ?_
              obtain ⟨t32, h33, H⟩ := bindE H
              refine Ok.region (σ' := ⟨[(0, (S a0)), (1, (S a1)), (6, (S t10)), (10, (S t32.1)), (11, (.v (.int .i64 t32.2)))], []⟩) ?_ ?_
              · refine .cv (VOk.mv (d := (S t10)) rfl rfl) rfl rfl ?_
                refine .cg (GOk.call rfl rfl cl8 rfl (pct_Decode.ok h33) rfl) rfl rfl ?_
                refine .cv (VOk.mv (d := (.tup [(S t32.1), (.v (.int .i64 t32.2))])) rfl rfl) rfl rfl ?_
                refine .cv (VOk.extract (d := (S t32.1)) rfl rfl rfl) rfl rfl ?_
                refine .cv (VOk.extract (d := (.v (.int .i64 t32.2))) rfl rfl rfl) rfl rfl ?_
                refine .cv (VOk.asg (d := (S t32.1)) rfl rfl) rfl rfl ?_
                refine .cv (VOk.asg (d := (.v (.int .i64 t32.2))) rfl rfl) rfl rfl ?_
                exact .done (.rf rfl rfl)
              refine Ok.seq ?_
              refine Ok.seq ?_
              obtain ⟨t34, h35, H⟩ := bindE H
              refine Ok.region (σ' := ⟨[(0, (S a0)), (1, (S a1)), (6, (S t10)), (10, (S t32.1)), (11, (.v (.int .i64 t32.2))), (78, (.v (.bool (decide (t34 ≥ 0)))))], []⟩) ?_ ?_
              · refine .cv (VOk.mv (d := (S a0)) rfl rfl) rfl rfl ?_
                refine .cg (GOk.call rfl rfl cl13 rfl (utf_Check.ok h35) rfl) rfl rfl ?_
                refine .cv (VOk.arith (op := .geq) (k := .i64) (a := t34) (b := 0) rfl rfl rfl rfl) rfl rfl ?_
                exact .done (.rf rfl rfl)
              refine Ok.test (b := (decide (t34 ≥ 0))) rfl (fun hb48 => ?_) (fun hb48 => ?_)
              · replace H := ifT H hb48
                refine Ok.seq ?_
                refine Ok.region (σ' := ⟨[(4, (.v (.bool ((t32.1 == ([] : Str)) && (t32.2 == 10)))))], []⟩) ?_ ?_
                · refine .cv (VOk.mv (d := (S t32.1)) rfl rfl) rfl rfl ?_
                  refine .cv (VOk.strOp (op := .eql) (a := t32.1) (b := ([] : Str)) rfl rfl rfl rfl) rfl rfl ?_
                  refine .cv (VOk.mv (d := (.v (.bool (t32.1 == ([] : Str))))) rfl rfl) rfl rfl ?_
                  refine OpsOk.consI rfl rfl rfl (.one rfl) rfl (fun hw36 => (VOk.g (VOk.mv (d := (.v (.int .i64 t32.2))) rfl rfl))) ?_
                  refine OpsOk.consI rfl rfl rfl (.one rfl) rfl (fun hw36 => (GOk.fr (fr' := [(82, (.v (.int .i64 t32.2)))]) ⟨DLe.of_eq (cT hw36).symm, trivial⟩ (VOk.g (VOk.arith (op := .eql) (k := .i64) (a := t32.2) (b := 10) rfl rfl rfl rfl)))) ?_
                  refine .cv (VOk.to (VOk.pickI (b := (t32.1 == ([] : Str))) (p := (t32.2 == 10)) (q := false) rfl rfl (fun hp37 => (cT (t_beq hp37))) (fun hp37 => rfl)) (pickAnd (t32.1 == ([] : Str)) (t32.2 == 10))) rfl rfl ?_
                  refine .cv (VOk.asg (d := (.v (.bool ((t32.1 == ([] : Str)) && (t32.2 == 10))))) rfl rfl) rfl rfl ?_
                  exact .done (.rf rfl rfl)
                refine Ok.ret ?_
                obtain rfl := Option.some.inj H
                exact ⟨.inl rfl, ⟨_, (.cons (.tmp rfl) .nil), rfl⟩, trivial⟩
              · replace H := ifF H hb48
                refine Ok.skip ?_
                refine Ok.seq ?_
                obtain ⟨t38, h39, H⟩ := bindE H
                obtain ⟨t40, h41, H⟩ := bindE H
                refine Ok.region (σ' := ⟨[(0, (S a0)), (6, (S t10)), (10, (S t32.1)), (11, (.v (.int .i64 t32.2))), (12, (S t40.1)), (13, (.v (.int .i64 t40.2)))], []⟩) ?_ ?_
                · refine .cv (VOk.mv (d := (S t10)) rfl rfl) rfl rfl ?_
                  refine .cv (VOk.mv (d := (S a1)) rfl rfl) rfl rfl ?_
                  refine .cg (GOk.call rfl rfl cl10 rfl (pct_Encode.ok h39) rfl) rfl rfl ?_
                  refine .cg (GOk.call rfl rfl cl8 rfl (pct_Decode.ok h41) rfl) rfl rfl ?_
                  refine .cv (VOk.mv (d := (.tup [(S t40.1), (.v (.int .i64 t40.2))])) rfl rfl) rfl rfl ?_
                  refine .cv (VOk.extract (d := (S t40.1)) rfl rfl rfl) rfl rfl ?_
                  refine .cv (VOk.extract (d := (.v (.int .i64 t40.2))) rfl rfl rfl) rfl rfl ?_
                  refine .cv (VOk.asg (d := (S t40.1)) rfl rfl) rfl rfl ?_
                  refine .cv (VOk.asg (d := (.v (.int .i64 t40.2))) rfl rfl) rfl rfl ?_
                  exact .done (.rf rfl rfl)
                refine Ok.seq ?_
                refine Ok.region (σ' := ⟨[(4, (.v (.bool ((((t32.1 == a0) && (t32.2 == 0)) && (t40.1 == t10)) && (t40.2 == 0)))))], []⟩) ?_ ?_
                · refine .cv (VOk.mv (d := (S t32.1)) rfl rfl) rfl rfl ?_
                  refine .cv (VOk.mv (d := (S a0)) rfl rfl) rfl rfl ?_
                  refine .cv (VOk.strOp (op := .eql) (a := t32.1) (b := a0) rfl rfl rfl rfl) rfl rfl ?_
                  refine .cv (VOk.mv (d := (.v (.bool (t32.1 == a0)))) rfl rfl) rfl rfl ?_
                  refine OpsOk.consI rfl rfl rfl (.one rfl) rfl (fun hw42 => (VOk.g (VOk.mv (d := (.v (.int .i64 t32.2))) rfl rfl))) ?_
                  refine OpsOk.consI rfl rfl rfl (.one rfl) rfl (fun hw42 => (GOk.fr (fr' := [(96, (.v (.int .i64 t32.2)))]) ⟨DLe.of_eq (cT hw42).symm, trivial⟩ (VOk.g (VOk.arith (op := .eql) (k := .i64) (a := t32.2) (b := 0) rfl rfl rfl rfl)))) ?_
                  refine .cv (VOk.to (VOk.pickI (b := (t32.1 == a0)) (p := (t32.2 == 0)) (q := false) rfl rfl (fun hp43 => (cT (t_beq hp43))) (fun hp43 => rfl)) (pickAnd (t32.1 == a0) (t32.2 == 0))) rfl rfl ?_
                  refine .cv (VOk.mv (d := (.v (.bool ((t32.1 == a0) && (t32.2 == 0))))) rfl rfl) rfl rfl ?_
                  refine OpsOk.consI rfl rfl rfl (.one rfl) rfl (fun hw44 => (VOk.g (VOk.mv (d := (S t40.1)) rfl rfl))) ?_
                  refine OpsOk.consI rfl rfl rfl (.one rfl) rfl (fun hw44 => (VOk.g (VOk.mv (d := (S t10)) rfl rfl))) ?_
                  refine OpsOk.consI rfl rfl rfl (.one rfl) rfl (fun hw44 => (GOk.fr (fr' := [(100, (S t40.1)), (101, (S t10))]) ⟨DLe.of_eq (cT hw44).symm, DLe.of_eq (cT hw44).symm, trivial⟩ (VOk.g (VOk.strOp (op := .eql) (a := t40.1) (b := t10) rfl rfl rfl rfl)))) ?_
                  refine .cv (VOk.to (VOk.pickI (b := ((t32.1 == a0) && (t32.2 == 0))) (p := (t40.1 == t10)) (q := false) rfl rfl (fun hp45 => (cT (t_beq hp45))) (fun hp45 => rfl)) (pickAnd ((t32.1 == a0) && (t32.2 == 0)) (t40.1 == t10))) rfl rfl ?_
                  refine .cv (VOk.mv (d := (.v (.bool (((t32.1 == a0) && (t32.2 == 0)) && (t40.1 == t10))))) rfl rfl) rfl rfl ?_
                  refine OpsOk.consI rfl rfl rfl (.one rfl) rfl (fun hw46 => (VOk.g (VOk.mv (d := (.v (.int .i64 t40.2))) rfl rfl))) ?_
                  refine OpsOk.consI rfl rfl rfl (.one rfl) rfl (fun hw46 => (GOk.fr (fr' := [(105, (.v (.int .i64 t40.2)))]) ⟨DLe.of_eq (cT hw46).symm, trivial⟩ (VOk.g (VOk.arith (op := .eql) (k := .i64) (a := t40.2) (b := 0) rfl rfl rfl rfl)))) ?_
                  refine .cv (VOk.to (VOk.pickI (b := (((t32.1 == a0) && (t32.2 == 0)) && (t40.1 == t10))) (p := (t40.2 == 0)) (q := false) rfl rfl (fun hp47 => (cT (t_beq hp47))) (fun hp47 => rfl)) (pickAnd (((t32.1 == a0) && (t32.2 == 0)) && (t40.1 == t10)) (t40.2 == 0))) rfl rfl ?_
                  refine .cv (VOk.asg (d := (.v (.bool ((((t32.1 == a0) && (t32.2 == 0)) && (t40.1 == t10)) && (t40.2 == 0))))) rfl rfl) rfl rfl ?_
                  exact .done (.rf rfl rfl)
                refine Ok.ret ?_
                obtain rfl := Option.some.inj H
                exact ⟨.inl rfl, ⟨_, (.cons (.tmp rfl) .nil), rfl⟩, trivial⟩

/-! watchbill/watchbillref09.Pieces: function 16 -/
def watchbillref09_Pieces.l0 (k : Nat) (a0 : Str) (a1 : Int) : Nat → List Str → Int → Int → Option (List Str)
  | 0, _, _, _ => none
  | m7 + 1, y5_3, x6_1, x7_2 => (if (decide (x7_2 ≤ (a0.length : Int))) = true then (if (((x7_2 == (a0.length : Int)) == false) = true → (0 : Int) ≤ x7_2 ∧ x7_2 < (a0.length : Int)) then (if ((x7_2 == (a0.length : Int)) || ((bt a0 x7_2) == a1)) = true then (if (0 : Int) ≤ x6_1 ∧ x6_1 ≤ x7_2 ∧ x7_2 ≤ (a0.length : Int) then (if (y5_3.length + ([(sl a0 x6_1 x7_2)] : List Str).length) * 16 ≤ 140737488355328 then watchbillref09_Pieces.l0 k a0 a1 m7 (y5_3 ++ ([(sl a0 x6_1 x7_2)] : List Str)) (IntKind.i64.wrap (x7_2 + 1)) (IntKind.i64.wrap (x7_2 + 1)) else none) else none) else watchbillref09_Pieces.l0 k a0 a1 m7 y5_3 x6_1 (IntKind.i64.wrap (x7_2 + 1))) else none) else some y5_3)
def watchbillref09_Pieces (k : Nat) (a0 : Str) (a1 : Int) : Option (List Str) := watchbillref09_Pieces.l0 k a0 a1 k ([] : List Str) 0 0
theorem watchbillref09_Pieces.ok {k : Nat} {a0 : Str} {a1 : Int} {r : (List Str)} (H : watchbillref09_Pieces k a0 a1 = some r) : Vx.Fn Tryd.prog 16 [(S a0), (.v (.int .u8 a1))] [] (L 1 eS r) [] := by
  unfold watchbillref09_Pieces at H
  refine Vx.Fn.of_okR Tryd.func16 rfl (Nat.le_of_ble_eq_true rfl) ?_
  refine Ok.seq ?_
  refine Ok.region (σ' := ⟨[(0, (S a0)), (1, (.v (.int .u8 a1)))], []⟩) ?_ ?_
  · refine .cv (VOk.asg (d := (.v (.slice none 0 0))) rfl rfl) rfl rfl ?_
    exact .done (.rf rfl rfl)
  refine Ok.seq ?_
  refine Ok.region (σ' := ⟨[(0, (S a0)), (1, (.v (.int .u8 a1))), (5, (.sref 5))], [(5, (.rows true 9 1 (([] : List Str).map eS)))]⟩) ?_ ?_
  · refine OpsOk.cons rfl (.nilT 5 9 1 (.inl rfl) rfl rfl) ?_
    exact .done (.rf rfl rfl)
  refine Ok.seq ?_
  refine Ok.region (σ' := ⟨[(0, (S a0)), (1, (.v (.int .u8 a1))), (5, (.sref 5)), (6, (.v (.int .i64 0)))], [(5, (.rows true 9 1 (([] : List Str).map eS)))]⟩) ?_ ?_
  · refine .cv (VOk.asg (d := (.v (.int .i64 0))) rfl rfl) rfl rfl ?_
    exact .done (.rf rfl rfl)
  refine Ok.seq ?_
  refine Ok.seq ?_
  refine Ok.region (σ' := ⟨[(0, (S a0)), (1, (.v (.int .u8 a1))), (5, (.sref 5)), (6, (.v (.int .i64 0))), (7, (.v (.int .i64 0)))], [(5, (.rows true 9 1 (([] : List Str).map eS)))]⟩) ?_ ?_
  · refine .cv (VOk.asg (d := (.v (.int .i64 0))) rfl rfl) rfl rfl ?_
    exact .done (.rf rfl rfl)
  refine Ok.block ?_
  refine Ok.le (σ' := ⟨[(0, (S a0)), (1, (.v (.int .u8 a1))), (5, (.sref 5)), (6, (.v (.int .i64 0))), (7, (.v (.int .i64 0)))], [(5, (.rows true 9 1 (([] : List Str).map eS)))]⟩) (.rf rfl rfl) ?_
  refine Ok.loop (fun m7 σ => ∃ (y5_3 : List Str) (x6_1 : Int) (x7_2 : Int), σ = ⟨[(0, (S a0)), (1, (.v (.int .u8 a1))), (5, (.sref 5)), (6, (.v (.int .i64 x6_1))), (7, (.v (.int .i64 x7_2)))], [(5, (.rows true 9 1 (y5_3.map eS)))]⟩ ∧ watchbillref09_Pieces.l0 k a0 a1 m7 y5_3 x6_1 x7_2 = some r) k ⟨([] : List Str), 0, 0, rfl, H⟩ ?_
  rintro m7 σ ⟨y5_3, x6_1, x7_2, rfl, H⟩
  cases m7 with
  | zero => exact absurd H (by simp [watchbillref09_Pieces.l0])
  | succ m7 =>
    unfold watchbillref09_Pieces.l0 at H
    refine Ok.seq ?_
    refine Ok.seq ?_
    refine Ok.region (σ' := ⟨[(0, (S a0)), (1, (.v (.int .u8 a1))), (5, (.sref 5)), (6, (.v (.int .i64 x6_1))), (7, (.v (.int .i64 x7_2))), (11, (.v (.bool (decide (x7_2 ≤ (a0.length : Int))))))], [(5, (.rows true 9 1 (y5_3.map eS)))]⟩) ?_ ?_
    · refine .cv (VOk.mv (d := (.v (.int .i64 x7_2))) rfl rfl) rfl rfl ?_
      refine .cv (VOk.mv (d := (S a0)) rfl rfl) rfl rfl ?_
      refine .cv (VOk.lenStr (s := a0) rfl Tryd.underlying9 rfl) rfl rfl ?_
      refine .cv (VOk.arith (op := .leq) (k := .i64) (a := x7_2) (b := (a0.length : Int)) rfl rfl rfl rfl) rfl rfl ?_
      exact .done (.rf rfl rfl)
    refine Ok.test (b := (decide (x7_2 ≤ (a0.length : Int)))) rfl (fun hb14 => ?_) (fun hb14 => ?_)
    · replace H := ifT H hb14
      refine Ok.skip ?_
      refine Ok.seq ?_
      refine Ok.block ?_
      refine Ok.seq ?_
      obtain ⟨c9, H⟩ := assertE H
      refine Ok.region (σ' := ⟨[(0, (S a0)), (1, (.v (.int .u8 a1))), (5, (.sref 5)), (6, (.v (.int .i64 x6_1))), (7, (.v (.int .i64 x7_2))), (24, (.v (.bool ((x7_2 == (a0.length : Int)) || ((bt a0 x7_2) == a1)))))], [(5, (.rows true 9 1 (y5_3.map eS)))]⟩) ?_ ?_
      · refine .cv (VOk.mv (d := (.v (.int .i64 x7_2))) rfl rfl) rfl rfl ?_
        refine .cv (VOk.mv (d := (S a0)) rfl rfl) rfl rfl ?_
        refine .cv (VOk.lenStr (s := a0) rfl Tryd.underlying9 rfl) rfl rfl ?_
        refine .cv (VOk.arith (op := .eql) (k := .i64) (a := x7_2) (b := (a0.length : Int)) rfl rfl rfl rfl) rfl rfl ?_
        refine .cv (VOk.mv (d := (.v (.bool (x7_2 == (a0.length : Int))))) rfl rfl) rfl rfl ?_
        refine OpsOk.consI rfl rfl rfl (.one rfl) rfl (fun hw8 => (VOk.g (VOk.mv (d := (S a0)) rfl rfl))) ?_
        refine OpsOk.consI rfl rfl rfl (.one rfl) rfl (fun hw8 => (VOk.g (VOk.mv (d := (.v (.int .i64 x7_2))) rfl rfl))) ?_
        refine OpsOk.consI rfl rfl rfl (.one rfl) rfl (fun hw8 => (GOk.fr (fr' := [(19, (S a0)), (20, (.v (.int .i64 x7_2)))]) ⟨DLe.of_eq (cT hw8).symm, DLe.of_eq (cT hw8).symm, trivial⟩ (VOk.g (VOk.indexStr (s := a0) (i := x7_2) rfl Tryd.underlying9 rfl rfl (c9 hw8))))) ?_
        refine OpsOk.consI rfl rfl rfl (.one rfl) rfl (fun hw8 => (VOk.g (VOk.mv (d := (.v (.int .u8 a1))) rfl rfl))) ?_
        refine OpsOk.consI rfl rfl rfl (.one rfl) rfl (fun hw8 => (GOk.fr (fr' := [(21, (.v (.int .u8 (bt a0 x7_2)))), (22, (.v (.int .u8 a1)))]) ⟨DLe.of_eq (cT hw8).symm, DLe.of_eq (cT hw8).symm, trivial⟩ (VOk.g (VOk.arith (op := .eql) (k := .u8) (a := (bt a0 x7_2)) (b := a1) rfl rfl rfl rfl)))) ?_
        refine .cv (VOk.to (VOk.pickI (b := (x7_2 == (a0.length : Int))) (p := true) (q := ((bt a0 x7_2) == a1)) rfl rfl (fun hp10 => rfl) (fun hp10 => (cT (f_beq hp10)))) (pickOr (x7_2 == (a0.length : Int)) ((bt a0 x7_2) == a1))) rfl rfl ?_
        exact .done (.rf rfl rfl)
      refine Ok.test (b := ((x7_2 == (a0.length : Int)) || ((bt a0 x7_2) == a1))) rfl (fun hb13 => ?_) (fun hb13 => ?_)
      · replace H := ifT H hb13
        refine Ok.seq ?_
        obtain ⟨c11, H⟩ := assertE H
        obtain ⟨c12, H⟩ := assertE H
        refine Ok.region (σ' := ⟨[(0, (S a0)), (1, (.v (.int .u8 a1))), (5, (.sref 5)), (7, (.v (.int .i64 x7_2)))], [(5, (.rows true 9 1 ((y5_3 ++ ([(sl a0 x6_1 x7_2)] : List Str)).map eS)))]⟩) ?_ ?_
        · refine .cv (VOk.mv (d := (.sref 5)) rfl rfl) rfl rfl ?_
          refine .cv (VOk.mv (d := (S a0)) rfl rfl) rfl rfl ?_
          refine .cv (VOk.mv (d := (.v (.int .i64 x6_1))) rfl rfl) rfl rfl ?_
          refine .cv (VOk.mv (d := (.v (.int .i64 x7_2))) rfl rfl) rfl rfl ?_
          refine .cv (VOk.sliceStr (s := a0) (l := x6_1) (h := x7_2) rfl Tryd.underlying9 rfl rfl rfl c11) rfl rfl ?_
          refine .cg (GOk.to (d' := (L 1 eS ([(sl a0 x6_1 x7_2)] : List Str))) (GOk.lit rfl Tryd.underlying32 sz9 zs9 rfl rfl rfl rfl) rfl) rfl rfl ?_
          refine OpsOk.cons rfl (OpOk.appendL (e := eS) (xs := y5_3) (ys := ([(sl a0 x6_1 x7_2)] : List Str)) rfl Tryd.underlying32 elt9 rfl rfl rfl c12 rfl) ?_
          refine .cv (VOk.asg (d := (.sref 5)) rfl rfl) rfl rfl ?_
          exact .done (.rf rfl rfl)
        refine Ok.region (σ' := ⟨[(0, (S a0)), (1, (.v (.int .u8 a1))), (5, (.sref 5)), (6, (.v (.int .i64 (IntKind.i64.wrap (x7_2 + 1))))), (7, (.v (.int .i64 x7_2)))], [(5, (.rows true 9 1 ((y5_3 ++ ([(sl a0 x6_1 x7_2)] : List Str)).map eS)))]⟩) ?_ ?_
        · refine .cv (VOk.mv (d := (.v (.int .i64 x7_2))) rfl rfl) rfl rfl ?_
          refine .cv (VOk.arith (op := .add) (k := .i64) (a := x7_2) (b := 1) rfl rfl rfl rfl) rfl rfl ?_
          refine .cv (VOk.asg (d := (.v (.int .i64 (IntKind.i64.wrap (x7_2 + 1))))) rfl rfl) rfl rfl ?_
          exact .done (.rf rfl rfl)
        refine Ok.region (σ' := ⟨[(0, (S a0)), (1, (.v (.int .u8 a1))), (5, (.sref 5)), (6, (.v (.int .i64 (IntKind.i64.wrap (x7_2 + 1))))), (7, (.v (.int .i64 (IntKind.i64.wrap (x7_2 + 1)))))], [(5, (.rows true 9 1 ((y5_3 ++ ([(sl a0 x6_1 x7_2)] : List Str)).map eS)))]⟩) ?_ ?_
        · refine .cv (VOk.mv (d := (.v (.int .i64 x7_2))) rfl rfl) rfl rfl ?_
          refine .cv (VOk.arith (op := .add) (k := .i64) (a := x7_2) (b := 1) rfl rfl rfl rfl) rfl rfl ?_
          refine .cv (VOk.asg (d := (.v (.int .i64 (IntKind.i64.wrap (x7_2 + 1))))) rfl rfl) rfl rfl ?_
          exact .done (.rf rfl rfl)
        exact ⟨m7, Nat.lt_succ_self m7, (y5_3 ++ ([(sl a0 x6_1 x7_2)] : List Str)), (IntKind.i64.wrap (x7_2 + 1)), (IntKind.i64.wrap (x7_2 + 1)), rfl, H⟩
      · replace H := ifF H hb13
        refine Ok.skip ?_
        refine Ok.region (σ' := ⟨[(0, (S a0)), (1, (.v (.int .u8 a1))), (5, (.sref 5)), (6, (.v (.int .i64 x6_1))), (7, (.v (.int .i64 (IntKind.i64.wrap (x7_2 + 1)))))], [(5, (.rows true 9 1 (y5_3.map eS)))]⟩) ?_ ?_
        · refine .cv (VOk.mv (d := (.v (.int .i64 x7_2))) rfl rfl) rfl rfl ?_
          refine .cv (VOk.arith (op := .add) (k := .i64) (a := x7_2) (b := 1) rfl rfl rfl rfl) rfl rfl ?_
          refine .cv (VOk.asg (d := (.v (.int .i64 (IntKind.i64.wrap (x7_2 + 1))))) rfl rfl) rfl rfl ?_
          exact .done (.rf rfl rfl)
        exact ⟨m7, Nat.lt_succ_self m7, y5_3, x6_1, (IntKind.i64.wrap (x7_2 + 1)), rfl, H⟩
    · replace H := ifF H hb14
      refine Ok.exit ?_
      refine Ok.seq ?_
      refine Ok.region (σ' := ⟨[(4, (.sref 5))], [(5, (.rows true 9 1 (y5_3.map eS)))]⟩) ?_ ?_
      · refine .cv (VOk.mv (d := (.sref 5)) rfl rfl) rfl rfl ?_
        refine .cv (VOk.asg (d := (.sref 5)) rfl rfl) rfl rfl ?_
        exact .done (.rf rfl rfl)
      refine Ok.frzL 5 (e := eS) (xs := y5_3) rfl ?_
      refine Ok.ret ?_
      obtain rfl := Option.some.inj H
      exact ⟨.inl rfl, ⟨_, (.cons (.tmp rfl) .nil), rfl⟩, trivial⟩

/-! watchbill/watchbillref09.Same: function 15 -/
def watchbillref09_Same.l0 (k : Nat) (a0 : List Str) (a1 : List Str) : Nat → Int → Option Bool
  | 0, _ => none
  | m3 + 1, x5_1 => (if (decide (x5_1 < (a0.length : Int))) = true then (if (0 : Int) ≤ x5_1 ∧ x5_1 < (a0.length : Int) then (if (0 : Int) ≤ x5_1 ∧ x5_1 < (a1.length : Int) then (if (!((rd a0 x5_1) == (rd a1 x5_1))) = true then some false else watchbillref09_Same.l0 k a0 a1 m3 (IntKind.i64.wrap (x5_1 + 1))) else none) else none) else some true)
def watchbillref09_Same (k : Nat) (a0 : List Str) (a1 : List Str) : Option Bool := (if ((a0.length : Int) != (a1.length : Int)) = true then some false else watchbillref09_Same.l0 k a0 a1 k 0)
theorem watchbillref09_Same.ok {k : Nat} {a0 : List Str} {a1 : List Str} {r : Bool} (H : watchbillref09_Same k a0 a1 = some r) : Vx.Fn Tryd.prog 15 [(L 1 eS a0), (L 1 eS a1)] [] (.v (.bool r)) [] := by
  unfold watchbillref09_Same at H
  refine Vx.Fn.of_okR Tryd.func15 rfl (Nat.le_of_ble_eq_true rfl) ?_
  refine Ok.seq ?_
  refine Ok.region (σ' := ⟨[(0, (L 1 eS a0)), (1, (L 1 eS a1))], []⟩) ?_ ?_
  · refine .cv (VOk.asg (d := (.v (.bool false))) rfl rfl) rfl rfl ?_
    exact .done (.rf rfl rfl)
  refine Ok.seq ?_
  refine Ok.seq ?_
  refine Ok.region (σ' := ⟨[(0, (L 1 eS a0)), (1, (L 1 eS a1)), (10, (.v (.bool ((a0.length : Int) != (a1.length : Int)))))], []⟩) ?_ ?_
  · refine .cv (VOk.mv (d := (L 1 eS a0)) rfl rfl) rfl rfl ?_
    refine .cv (VOk.lenL (e := eS) (xs := a0) rfl Tryd.underlying32 rfl) rfl rfl ?_
    refine .cv (VOk.mv (d := (L 1 eS a1)) rfl rfl) rfl rfl ?_
    refine .cv (VOk.lenL (e := eS) (xs := a1) rfl Tryd.underlying32 rfl) rfl rfl ?_
    refine .cv (VOk.arith (op := .neq) (k := .i64) (a := (a0.length : Int)) (b := (a1.length : Int)) rfl rfl rfl rfl) rfl rfl ?_
    exact .done (.rf rfl rfl)
  refine Ok.test (b := ((a0.length : Int) != (a1.length : Int))) rfl (fun hb8 => ?_) (fun hb8 => ?_)
  · replace H := ifT H hb8
    refine Ok.seq ?_
    refine Ok.region (σ' := ⟨[(4, (.v (.bool false)))], []⟩) ?_ ?_
    · refine .cv (VOk.asg (d := (.v (.bool false))) rfl rfl) rfl rfl ?_
      exact .done (.rf rfl rfl)
    refine Ok.ret ?_
    obtain rfl := Option.some.inj H
    exact ⟨.inl rfl, ⟨_, (.cons (.tmp rfl) .nil), rfl⟩, trivial⟩
  · replace H := ifF H hb8
    refine Ok.skip ?_
    refine Ok.seq ?_
    refine Ok.seq ?_
    refine Ok.region (σ' := ⟨[(0, (L 1 eS a0)), (1, (L 1 eS a1)), (5, (.v (.int .i64 0)))], []⟩) ?_ ?_
    · refine .cv (VOk.asg (d := (.v (.int .i64 0))) rfl rfl) rfl rfl ?_
      exact .done (.rf rfl rfl)
    refine Ok.block ?_
    refine Ok.le (σ' := ⟨[(0, (L 1 eS a0)), (1, (L 1 eS a1)), (5, (.v (.int .i64 0)))], []⟩) (.rf rfl rfl) ?_
    refine Ok.loop (fun m3 σ => ∃ (x5_1 : Int), σ = ⟨[(0, (L 1 eS a0)), (1, (L 1 eS a1)), (5, (.v (.int .i64 x5_1)))], []⟩ ∧ watchbillref09_Same.l0 k a0 a1 m3 x5_1 = some r) k ⟨0, rfl, H⟩ ?_
    rintro m3 σ ⟨x5_1, rfl, H⟩
    cases m3 with
    | zero => exact absurd H (by simp [watchbillref09_Same.l0])
    | succ m3 =>
      unfold watchbillref09_Same.l0 at H
      refine Ok.seq ?_
      refine Ok.seq ?_
      refine Ok.region (σ' := ⟨[(0, (L 1 eS a0)), (1, (L 1 eS a1)), (5, (.v (.int .i64 x5_1))), (14, (.v (.bool (decide (x5_1 < (a0.length : Int))))))], []⟩) ?_ ?_
      · refine .cv (VOk.mv (d := (.v (.int .i64 x5_1))) rfl rfl) rfl rfl ?_
        refine .cv (VOk.mv (d := (L 1 eS a0)) rfl rfl) rfl rfl ?_
        refine .cv (VOk.lenL (e := eS) (xs := a0) rfl Tryd.underlying32 rfl) rfl rfl ?_
        refine .cv (VOk.arith (op := .lss) (k := .i64) (a := x5_1) (b := (a0.length : Int)) rfl rfl rfl rfl) rfl rfl ?_
        exact .done (.rf rfl rfl)
      refine Ok.test (b := (decide (x5_1 < (a0.length : Int)))) rfl (fun hb7 => ?_) (fun hb7 => ?_)
      · replace H := ifT H hb7
        refine Ok.skip ?_
        refine Ok.seq ?_
        refine Ok.block ?_
        refine Ok.seq ?_
        obtain ⟨c4, H⟩ := assertE H
        obtain ⟨c5, H⟩ := assertE H
        refine Ok.drawE (σ' := ⟨[(0, (L 1 eS a0)), (1, (L 1 eS a1)), (5, (.v (.int .i64 x5_1))), (25, (.v (.bool (!((rd a0 x5_1) == (rd a1 x5_1))))))], []⟩) [⟨true, [(0, (L 1 eS a0))], (L 1 eS a0)⟩, ⟨true, [(5, (.v (.int .i64 x5_1)))], (.v (.int .i64 x5_1))⟩, ⟨true, [(17, (L 1 eS a0)), (18, (.v (.int .i64 x5_1)))], (.fp (eS (rd a0 x5_1)) 0)⟩, ⟨true, [(19, (.fp (eS (rd a0 x5_1)) 0))], (S (rd a0 x5_1))⟩, ⟨true, [(1, (L 1 eS a1))], (L 1 eS a1)⟩, ⟨true, [(5, (.v (.int .i64 x5_1)))], (.v (.int .i64 x5_1))⟩, ⟨true, [(21, (L 1 eS a1)), (22, (.v (.int .i64 x5_1)))], (.fp (eS (rd a1 x5_1)) 0)⟩, ⟨true, [(23, (.fp (eS (rd a1 x5_1)) 0))], (S (rd a1 x5_1))⟩, ⟨true, [(20, (S (rd a0 x5_1))), (24, (S (rd a1 x5_1)))], (.v (.bool (!((rd a0 x5_1) == (rd a1 x5_1)))))⟩] [[], [], [0, 1], [2], [], [], [4, 5], [6], [3, 7]] mixed (by kernel_rfl) ?_ ?_
        · refine TxtE.cons rfl ⟨.same _, trivial⟩ rfl (VOk.g (VOk.mv (d := (L 1 eS a0)) rfl rfl)) ?_
          refine TxtE.cons rfl ⟨.same _, trivial⟩ rfl (VOk.g (VOk.mv (d := (.v (.int .i64 x5_1))) rfl rfl)) ?_
          refine TxtE.cons rfl ⟨.same _, .same _, trivial⟩ rfl (VOk.g (VOk.indexL (sz := 1) (e := eS) (xs := a0) (i := x5_1) rfl Tryd.underlying32 sz9 rfl rfl c4)) ?_
          refine TxtE.cons rfl ⟨.same _, trivial⟩ rfl (VOk.g (VOk.loadFp (d := (S (rd a0 x5_1))) rfl Tryd.underlying9 rfl rfl rfl)) ?_
          refine TxtE.cons rfl ⟨.same _, trivial⟩ rfl (VOk.g (VOk.mv (d := (L 1 eS a1)) rfl rfl)) ?_
          refine TxtE.cons rfl ⟨.same _, trivial⟩ rfl (VOk.g (VOk.mv (d := (.v (.int .i64 x5_1))) rfl rfl)) ?_
          refine TxtE.cons rfl ⟨.same _, .same _, trivial⟩ rfl (VOk.g (VOk.indexL (sz := 1) (e := eS) (xs := a1) (i := x5_1) rfl Tryd.underlying32 sz9 rfl rfl c5)) ?_
          refine TxtE.cons rfl ⟨.same _, trivial⟩ rfl (VOk.g (VOk.loadFp (d := (S (rd a1 x5_1))) rfl Tryd.underlying9 rfl rfl rfl)) ?_
          refine TxtE.cons rfl ⟨.same _, .same _, trivial⟩ rfl (VOk.g (VOk.strOp (op := .neq) (a := (rd a0 x5_1)) (b := (rd a1 x5_1)) rfl rfl rfl rfl)) ?_
          exact .done (.rf rfl rfl)
        refine Ok.test (b := (!((rd a0 x5_1) == (rd a1 x5_1)))) rfl (fun hb6 => ?_) (fun hb6 => ?_)
        · replace H := ifT H hb6
          refine Ok.seq ?_
          refine Ok.region (σ' := ⟨[(4, (.v (.bool false)))], []⟩) ?_ ?_
          · refine .cv (VOk.asg (d := (.v (.bool false))) rfl rfl) rfl rfl ?_
            exact .done (.rf rfl rfl)
          refine Ok.ret ?_
          obtain rfl := Option.some.inj H
          exact ⟨.inl rfl, ⟨_, (.cons (.tmp rfl) .nil), rfl⟩, trivial⟩
        · replace H := ifF H hb6
          refine Ok.skip ?_
          refine Ok.region (σ' := ⟨[(0, (L 1 eS a0)), (1, (L 1 eS a1)), (5, (.v (.int .i64 (IntKind.i64.wrap (x5_1 + 1)))))], []⟩) ?_ ?_
          · refine .cv (VOk.mv (d := (.v (.int .i64 x5_1))) rfl rfl) rfl rfl ?_
            refine .cv (VOk.arith (op := .add) (k := .i64) (a := x5_1) (b := 1) rfl rfl rfl rfl) rfl rfl ?_
            refine .cv (VOk.asg (d := (.v (.int .i64 (IntKind.i64.wrap (x5_1 + 1))))) rfl rfl) rfl rfl ?_
            exact .done (.rf rfl rfl)
          exact ⟨m3, Nat.lt_succ_self m3, (IntKind.i64.wrap (x5_1 + 1)), rfl, H⟩
      · replace H := ifF H hb7
        refine Ok.exit ?_
        refine Ok.seq ?_
        refine Ok.region (σ' := ⟨[(4, (.v (.bool true)))], []⟩) ?_ ?_
        · refine .cv (VOk.asg (d := (.v (.bool true))) rfl rfl) rfl rfl ?_
          exact .done (.rf rfl rfl)
        refine Ok.ret ?_
        obtain rfl := Option.some.inj H
        exact ⟨.inl rfl, ⟨_, (.cons (.tmp rfl) .nil), rfl⟩, trivial⟩

/-! watchbill/watchbilllaw09.PctPieces: function 5 -/
def watchbilllaw09_PctPieces.l1 (k : Nat) (c0 : Str → Int → Option Bool) (a0 : Str) (a1 : Int) (t3 : (List Str)) (x7_10 : Int) (x6_14 : Str) : Nat → Int → Option Bool
  | 0, _ => none
  | m19 + 1, x8_17 => (if (0 : Int) ≤ x7_10 ∧ x7_10 < (t3.length : Int) then (if (decide (x8_17 < ((rd t3 x7_10).length : Int))) = true then (if (0 : Int) ≤ x7_10 ∧ x7_10 < (t3.length : Int) then (if (0 : Int) ≤ x8_17 ∧ x8_17 < ((rd t3 x7_10).length : Int) then (if ((bt (rd t3 x7_10) x8_17) == a1) = true then some false else watchbilllaw09_PctPieces.l1 k c0 a0 a1 t3 x7_10 x6_14 m19 (IntKind.i64.wrap (x8_17 + 1))) else none) else none) else c0 (x6_14 ++ (rd t3 x7_10)) (IntKind.i64.wrap (x7_10 + 1))) else none)
def watchbilllaw09_PctPieces.j2 (k : Nat) (c0 : Str → Int → Option Bool) (a0 : Str) (a1 : Int) (t3 : (List Str)) (x7_10 : Int) (x6_14 : Str) : Option Bool := (if (0 : Int) ≤ x7_10 ∧ x7_10 < (t3.length : Int) then (if x6_14.length + (rd t3 x7_10).length ≤ 9223372036854775807 then watchbilllaw09_PctPieces.l1 k (c0) a0 a1 t3 x7_10 x6_14 k 0 else none) else none)
def watchbilllaw09_PctPieces.l0 (k : Nat) (a0 : Str) (a1 : Int) (t3 : (List Str)) : Nat → Str → Int → Option Bool
  | 0, _, _ => none
  | m13 + 1, x6_9, x7_10 => (if (decide (x7_10 < (t3.length : Int))) = true then (if (decide (x7_10 > 0)) = true then (if x6_9.length + (strOfBytes ([a1] : List Int)).length ≤ 9223372036854775807 then watchbilllaw09_PctPieces.j2 k (watchbilllaw09_PctPieces.l0 k a0 a1 t3 m13) a0 a1 t3 x7_10 (x6_9 ++ (strOfBytes ([a1] : List Int))) else none) else watchbilllaw09_PctPieces.j2 k (watchbilllaw09_PctPieces.l0 k a0 a1 t3 m13) a0 a1 t3 x7_10 x6_9) else some (x6_9 == a0))
def watchbilllaw09_PctPieces (k : Nat) (a0 : Str) (a1 : Int) : Option Bool := ((watchbilllaw09_awake k).bind fun (t1 : Bool) => (if (!t1) = true then some false else (if (decide ((a0.length : Int) > 5000)) = true then some true else ((pct_Pieces a0 a1).bind fun (t3 : (List Str)) => ((watchbillref09_Pieces k a0 a1).bind fun (t5 : (List Str)) => ((watchbillref09_Same k t3 t5).bind fun (t7 : Bool) => (if (!t7) = true then some false else watchbilllaw09_PctPieces.l0 k a0 a1 t3 k ([] : Str) 0)))))))
theorem watchbilllaw09_PctPieces.ok {k : Nat} {a0 : Str} {a1 : Int} {r : Bool} (H : watchbilllaw09_PctPieces k a0 a1 = some r) : Vx.Fn Tryd.prog 5 [(S a0), (.v (.int .u8 a1))] [] (.v (.bool r)) [] := by
  unfold watchbilllaw09_PctPieces at H
  refine Vx.Fn.of_okR Tryd.func5 rfl (Nat.le_of_ble_eq_true rfl) ?_
  refine Ok.seq ?_
  refine Ok.region (σ' := ⟨[(0, (S a0)), (1, (.v (.int .u8 a1)))], []⟩) ?_ ?_
  · refine .cv (VOk.asg (d := (.v (.bool false))) rfl rfl) rfl rfl ?_
    exact .done (.rf rfl rfl)
  refine Ok.seq ?_
  refine Ok.seq ?_
  obtain ⟨t1, h2, H⟩ := bindE H
  refine Ok.region (σ' := ⟨[(0, (S a0)), (1, (.v (.int .u8 a1))), (10, (.v (.bool (!t1))))], []⟩) ?_ ?_
  · refine .cg (GOk.call rfl rfl cl7 rfl (watchbilllaw09_awake.ok h2) rfl) rfl rfl ?_
    refine .cv (VOk.not (b := t1) rfl rfl) rfl rfl ?_
    exact .done (.rf rfl rfl)
  refine Ok.test (b := (!t1)) rfl (fun hb30 => ?_) (fun hb30 => ?_)
  · replace H := ifT H hb30
    refine Ok.seq ?_
    refine Ok.region (σ' := ⟨[(4, (.v (.bool false)))], []⟩) ?_ ?_
    · refine .cv (VOk.asg (d := (.v (.bool false))) rfl rfl) rfl rfl ?_
      exact .done (.rf rfl rfl)
    refine Ok.ret ?_
    obtain rfl := Option.some.inj H
    exact ⟨.inl rfl, ⟨_, (.cons (.tmp rfl) .nil), rfl⟩, trivial⟩
  · replace H := ifF H hb30
    refine Ok.skip ?_
    refine Ok.seq ?_
    refine Ok.seq ?_
    refine Ok.region (σ' := ⟨[(0, (S a0)), (1, (.v (.int .u8 a1))), (13, (.v (.bool (decide ((a0.length : Int) > 5000)))))], []⟩) ?_ ?_
    · refine .cv (VOk.mv (d := (S a0)) rfl rfl) rfl rfl ?_
      refine .cv (VOk.lenStr (s := a0) rfl Tryd.underlying9 rfl) rfl rfl ?_
      refine .cv (VOk.arith (op := .gtr) (k := .i64) (a := (a0.length : Int)) (b := 5000) rfl rfl rfl rfl) rfl rfl ?_
      exact .done (.rf rfl rfl)
    refine Ok.test (b := (decide ((a0.length : Int) > 5000))) rfl (fun hb29 => ?_) (fun hb29 => ?_)
    · replace H := ifT H hb29
      refine Ok.seq ?_
      refine Ok.region (σ' := ⟨[(4, (.v (.bool true)))], []⟩) ?_ ?_
      · refine .cv (VOk.asg (d := (.v (.bool true))) rfl rfl) rfl rfl ?_
        exact .done (.rf rfl rfl)
      refine Ok.ret ?_
      obtain rfl := Option.some.inj H
      exact ⟨.inl rfl, ⟨_, (.cons (.tmp rfl) .nil), rfl⟩, trivial⟩
    · replace H := ifF H hb29
      refine Ok.skip ?_
      refine Ok.seq ?_
      obtain ⟨t3, h4, H⟩ := bindE H
      refine Ok.region (σ' := ⟨[(0, (S a0)), (1, (.v (.int .u8 a1))), (5, (L 1 eS t3))], []⟩) ?_ ?_
      · refine .cv (VOk.mv (d := (S a0)) rfl rfl) rfl rfl ?_
        refine .cv (VOk.mv (d := (.v (.int .u8 a1))) rfl rfl) rfl rfl ?_
        refine .cg (GOk.call rfl rfl cl14 rfl (pct_Pieces.ok h4) rfl) rfl rfl ?_
        refine .cv (VOk.asg (d := (L 1 eS t3)) rfl rfl) rfl rfl ?_
        exact .done (.rf rfl rfl)
      refine Ok.seq ?_
      refine Ok.seq ?_
      obtain ⟨t5, h6, H⟩ := bindE H
      obtain ⟨t7, h8, H⟩ := bindE H
      refine Ok.region (σ' := ⟨[(0, (S a0)), (1, (.v (.int .u8 a1))), (5, (L 1 eS t3)), (22, (.v (.bool (!t7))))], []⟩) ?_ ?_
      · refine .cv (VOk.mv (d := (L 1 eS t3)) rfl rfl) rfl rfl ?_
        refine .cv (VOk.mv (d := (S a0)) rfl rfl) rfl rfl ?_
        refine .cv (VOk.mv (d := (.v (.int .u8 a1))) rfl rfl) rfl rfl ?_
        refine .cg (GOk.call rfl rfl cl16 rfl (watchbillref09_Pieces.ok h6) rfl) rfl rfl ?_
        refine .cg (GOk.call rfl rfl cl15 rfl (watchbillref09_Same.ok h8) rfl) rfl rfl ?_
        refine .cv (VOk.not (b := t7) rfl rfl) rfl rfl ?_
        exact .done (.rf rfl rfl)
      refine Ok.test (b := (!t7)) rfl (fun hb28 => ?_) (fun hb28 => ?_)
      · replace H := ifT H hb28
        refine Ok.seq ?_
        refine Ok.region (σ' := ⟨[(4, (.v (.bool false)))], []⟩) ?_ ?_
        · refine .cv (VOk.asg (d := (.v (.bool false))) rfl rfl) rfl rfl ?_
          exact .done (.rf rfl rfl)
        refine Ok.ret ?_
        obtain rfl := Option.some.inj H
        exact ⟨.inl rfl, ⟨_, (.cons (.tmp rfl) .nil), rfl⟩, trivial⟩
      · replace H := ifF H hb28
        refine Ok.skip ?_
        refine Ok.seq ?_
        refine Ok.region (σ' := ⟨[(0, (S a0)), (1, (.v (.int .u8 a1))), (5, (L 1 eS t3)), (6, (S ([] : Str)))], []⟩) ?_ ?_
        · refine .cv (VOk.asg (d := (S ([] : Str))) rfl rfl) rfl rfl ?_
          exact .done (.rf rfl rfl)
        refine Ok.seq ?_
        refine Ok.seq ?_
        refine Ok.region (σ' := ⟨[(0, (S a0)), (1, (.v (.int .u8 a1))), (5, (L 1 eS t3)), (6, (S ([] : Str))), (7, (.v (.int .i64 0)))], []⟩) ?_ ?_
        · refine .cv (VOk.asg (d := (.v (.int .i64 0))) rfl rfl) rfl rfl ?_
          exact .done (.rf rfl rfl)
        refine Ok.block ?_
        refine Ok.le (σ' := ⟨[(0, (S a0)), (1, (.v (.int .u8 a1))), (5, (L 1 eS t3)), (6, (S ([] : Str))), (7, (.v (.int .i64 0)))], []⟩) (.rf rfl rfl) ?_
        refine Ok.loop (fun m13 σ => ∃ (x6_9 : Str) (x7_10 : Int), σ = ⟨[(0, (S a0)), (1, (.v (.int .u8 a1))), (5, (L 1 eS t3)), (6, (S x6_9)), (7, (.v (.int .i64 x7_10)))], []⟩ ∧ watchbilllaw09_PctPieces.l0 k a0 a1 t3 m13 x6_9 x7_10 = some r) k ⟨([] : Str), 0, rfl, H⟩ ?_
        rintro m13 σ ⟨x6_9, x7_10, rfl, H⟩
        cases m13 with
        | zero => exact absurd H (by simp [watchbilllaw09_PctPieces.l0])
        | succ m13 =>
          unfold watchbilllaw09_PctPieces.l0 at H
          refine Ok.seq ?_
          refine Ok.seq ?_
          refine Ok.region (σ' := ⟨[(0, (S a0)), (1, (.v (.int .u8 a1))), (5, (L 1 eS t3)), (6, (S x6_9)), (7, (.v (.int .i64 x7_10))), (26, (.v (.bool (decide (x7_10 < (t3.length : Int))))))], []⟩) ?_ ?_
          · refine .cv (VOk.mv (d := (.v (.int .i64 x7_10))) rfl rfl) rfl rfl ?_
            refine .cv (VOk.mv (d := (L 1 eS t3)) rfl rfl) rfl rfl ?_
            refine .cv (VOk.lenL (e := eS) (xs := t3) rfl Tryd.underlying32 rfl) rfl rfl ?_
            refine .cv (VOk.arith (op := .lss) (k := .i64) (a := x7_10) (b := (t3.length : Int)) rfl rfl rfl rfl) rfl rfl ?_
            exact .done (.rf rfl rfl)
          refine Ok.test (b := (decide (x7_10 < (t3.length : Int)))) rfl (fun hb27 => ?_) (fun hb27 => ?_)
          · replace H := ifT H hb27
            refine Ok.skip ?_
            refine Ok.seq ?_
            refine Ok.block ?_
            refine Ok.meet (fun σ => ∃ (x6_14 : Str), σ = ⟨[(0, (S a0)), (1, (.v (.int .u8 a1))), (5, (L 1 eS t3)), (6, (S x6_14)), (7, (.v (.int .i64 x7_10)))], []⟩ ∧ watchbilllaw09_PctPieces.j2 k (watchbilllaw09_PctPieces.l0 k a0 a1 t3 m13) a0 a1 t3 x7_10 x6_14 = some r) ?_ ?_
            · refine Ok.seq ?_
              refine Ok.region (σ' := ⟨[(0, (S a0)), (1, (.v (.int .u8 a1))), (5, (L 1 eS t3)), (6, (S x6_9)), (7, (.v (.int .i64 x7_10))), (30, (.v (.bool (decide (x7_10 > 0)))))], []⟩) ?_ ?_
              · refine .cv (VOk.mv (d := (.v (.int .i64 x7_10))) rfl rfl) rfl rfl ?_
                refine .cv (VOk.arith (op := .gtr) (k := .i64) (a := x7_10) (b := 0) rfl rfl rfl rfl) rfl rfl ?_
                exact .done (.rf rfl rfl)
              refine Ok.test (b := (decide (x7_10 > 0))) rfl (fun hb26 => ?_) (fun hb26 => ?_)
              · replace H := ifT H hb26
                obtain ⟨c25, H⟩ := assertE H
                refine Ok.region (σ' := ⟨[(0, (S a0)), (1, (.v (.int .u8 a1))), (5, (L 1 eS t3)), (6, (S (x6_9 ++ (strOfBytes ([a1] : List Int))))), (7, (.v (.int .i64 x7_10)))], []⟩) ?_ ?_
                · refine .cv (VOk.mv (d := (S x6_9)) rfl rfl) rfl rfl ?_
                  refine .cv (VOk.mv (d := (.v (.int .u8 a1))) rfl rfl) rfl rfl ?_
                  refine .cg (GOk.to (d' := (L 1 (eI .u8) ([a1] : List Int))) (GOk.lit rfl Tryd.underlying35 sz5 zs5 rfl rfl rfl rfl) rfl) rfl rfl ?_
                  refine .cv (VOk.bytesStr (xs := ([a1] : List Int)) rfl Tryd.underlying35 Tryd.underlying5 Tryd.underlying9 rfl) rfl rfl ?_
                  refine .cv (VOk.cat (a := x6_9) (b := (strOfBytes ([a1] : List Int))) rfl rfl rfl c25) rfl rfl ?_
                  refine .cv (VOk.asg (d := (S (x6_9 ++ (strOfBytes ([a1] : List Int))))) rfl rfl) rfl rfl ?_
                  exact .done (.rf rfl rfl)
                exact ⟨(x6_9 ++ (strOfBytes ([a1] : List Int))), rfl, H⟩
              · replace H := ifF H hb26
                refine Ok.le (σ' := ⟨[(0, (S a0)), (1, (.v (.int .u8 a1))), (5, (L 1 eS t3)), (6, (S x6_9)), (7, (.v (.int .i64 x7_10)))], []⟩) (.rf rfl rfl) ?_
                refine Ok.skip ?_
                exact ⟨x6_9, rfl, H⟩
            · rintro σ ⟨x6_14, rfl, H⟩
              unfold watchbilllaw09_PctPieces.j2 at H
              refine Ok.seq ?_
              obtain ⟨c15, H⟩ := assertE H
              obtain ⟨c16, H⟩ := assertE H
              refine Ok.region (σ' := ⟨[(0, (S a0)), (1, (.v (.int .u8 a1))), (5, (L 1 eS t3)), (6, (S (x6_14 ++ (rd t3 x7_10)))), (7, (.v (.int .i64 x7_10)))], []⟩) ?_ ?_
              · refine .cv (VOk.mv (d := (S x6_14)) rfl rfl) rfl rfl ?_
                refine .cv (VOk.mv (d := (L 1 eS t3)) rfl rfl) rfl rfl ?_
                refine .cv (VOk.mv (d := (.v (.int .i64 x7_10))) rfl rfl) rfl rfl ?_
                refine .cv (VOk.indexL (sz := 1) (e := eS) (xs := t3) (i := x7_10) rfl Tryd.underlying32 sz9 rfl rfl c15) rfl rfl ?_
                refine .cv (VOk.loadFp (d := (S (rd t3 x7_10))) rfl Tryd.underlying9 rfl rfl rfl) rfl rfl ?_
                refine .cv (VOk.cat (a := x6_14) (b := (rd t3 x7_10)) rfl rfl rfl c16) rfl rfl ?_
                refine .cv (VOk.asg (d := (S (x6_14 ++ (rd t3 x7_10)))) rfl rfl) rfl rfl ?_
                exact .done (.rf rfl rfl)
              refine Ok.seq ?_
              refine Ok.region (σ' := ⟨[(0, (S a0)), (1, (.v (.int .u8 a1))), (5, (L 1 eS t3)), (6, (S (x6_14 ++ (rd t3 x7_10)))), (7, (.v (.int .i64 x7_10))), (8, (.v (.int .i64 0)))], []⟩) ?_ ?_
              · refine .cv (VOk.asg (d := (.v (.int .i64 0))) rfl rfl) rfl rfl ?_
                exact .done (.rf rfl rfl)
              refine Ok.block ?_
              refine Ok.le (σ' := ⟨[(0, (S a0)), (1, (.v (.int .u8 a1))), (5, (L 1 eS t3)), (6, (S (x6_14 ++ (rd t3 x7_10)))), (7, (.v (.int .i64 x7_10))), (8, (.v (.int .i64 0)))], []⟩) (.rf rfl rfl) ?_
              refine Ok.loop (fun m19 σ => ∃ (x8_17 : Int), σ = ⟨[(0, (S a0)), (1, (.v (.int .u8 a1))), (5, (L 1 eS t3)), (6, (S (x6_14 ++ (rd t3 x7_10)))), (7, (.v (.int .i64 x7_10))), (8, (.v (.int .i64 x8_17)))], []⟩ ∧ watchbilllaw09_PctPieces.l1 k (watchbilllaw09_PctPieces.l0 k a0 a1 t3 m13) a0 a1 t3 x7_10 x6_14 m19 x8_17 = some r) k ⟨0, rfl, H⟩ ?_
              rintro m19 σ ⟨x8_17, rfl, H⟩
              cases m19 with
              | zero => exact absurd H (by simp [watchbilllaw09_PctPieces.l1])
              | succ m19 =>
                unfold watchbilllaw09_PctPieces.l1 at H
                refine Ok.seq ?_
                refine Ok.seq ?_
                obtain ⟨c20, H⟩ := assertE H
                refine Ok.region (σ' := ⟨[(0, (S a0)), (1, (.v (.int .u8 a1))), (5, (L 1 eS t3)), (6, (S (x6_14 ++ (rd t3 x7_10)))), (7, (.v (.int .i64 x7_10))), (8, (.v (.int .i64 x8_17))), (48, (.v (.bool (decide (x8_17 < ((rd t3 x7_10).length : Int))))))], []⟩) ?_ ?_
                · refine .cv (VOk.mv (d := (.v (.int .i64 x8_17))) rfl rfl) rfl rfl ?_
                  refine .cv (VOk.mv (d := (L 1 eS t3)) rfl rfl) rfl rfl ?_
                  refine .cv (VOk.mv (d := (.v (.int .i64 x7_10))) rfl rfl) rfl rfl ?_
                  refine .cv (VOk.indexL (sz := 1) (e := eS) (xs := t3) (i := x7_10) rfl Tryd.underlying32 sz9 rfl rfl c20) rfl rfl ?_
                  refine .cv (VOk.loadFp (d := (S (rd t3 x7_10))) rfl Tryd.underlying9 rfl rfl rfl) rfl rfl ?_
                  refine .cv (VOk.lenStr (s := (rd t3 x7_10)) rfl Tryd.underlying9 rfl) rfl rfl ?_
                  refine .cv (VOk.arith (op := .lss) (k := .i64) (a := x8_17) (b := ((rd t3 x7_10).length : Int)) rfl rfl rfl rfl) rfl rfl ?_
                  exact .done (.rf rfl rfl)
                refine Ok.test (b := (decide (x8_17 < ((rd t3 x7_10).length : Int)))) rfl (fun hb24 => ?_) (fun hb24 => ?_)
                · replace H := ifT H hb24
                  refine Ok.skip ?_
                  refine Ok.seq ?_
                  refine Ok.block ?_
                  refine Ok.seq ?_
                  obtain ⟨c21, H⟩ := assertE H
                  obtain ⟨c22, H⟩ := assertE H
                  refine Ok.region (σ' := ⟨[(0, (S a0)), (1, (.v (.int .u8 a1))), (5, (L 1 eS t3)), (6, (S (x6_14 ++ (rd t3 x7_10)))), (7, (.v (.int .i64 x7_10))), (8, (.v (.int .i64 x8_17))), (58, (.v (.bool ((bt (rd t3 x7_10) x8_17) == a1))))], []⟩) ?_ ?_
                  · refine .cv (VOk.mv (d := (L 1 eS t3)) rfl rfl) rfl rfl ?_
                    refine .cv (VOk.mv (d := (.v (.int .i64 x7_10))) rfl rfl) rfl rfl ?_
                    refine .cv (VOk.indexL (sz := 1) (e := eS) (xs := t3) (i := x7_10) rfl Tryd.underlying32 sz9 rfl rfl c21) rfl rfl ?_
                    refine .cv (VOk.loadFp (d := (S (rd t3 x7_10))) rfl Tryd.underlying9 rfl rfl rfl) rfl rfl ?_
                    refine .cv (VOk.mv (d := (.v (.int .i64 x8_17))) rfl rfl) rfl rfl ?_
                    refine .cv (VOk.indexStr (s := (rd t3 x7_10)) (i := x8_17) rfl Tryd.underlying9 rfl rfl c22) rfl rfl ?_
                    refine .cv (VOk.mv (d := (.v (.int .u8 a1))) rfl rfl) rfl rfl ?_
                    refine .cv (VOk.arith (op := .eql) (k := .u8) (a := (bt (rd t3 x7_10) x8_17)) (b := a1) rfl rfl rfl rfl) rfl rfl ?_
                    exact .done (.rf rfl rfl)
                  refine Ok.test (b := ((bt (rd t3 x7_10) x8_17) == a1)) rfl (fun hb23 => ?_) (fun hb23 => ?_)
                  · replace H := ifT H hb23
                    refine Ok.seq ?_
                    refine Ok.region (σ' := ⟨[(4, (.v (.bool false)))], []⟩) ?_ ?_
                    · refine .cv (VOk.asg (d := (.v (.bool false))) rfl rfl) rfl rfl ?_
                      exact .done (.rf rfl rfl)
                    refine Ok.ret ?_
                    obtain rfl := Option.some.inj H
                    exact ⟨.inl rfl, ⟨_, (.cons (.tmp rfl) .nil), rfl⟩, trivial⟩
                  · replace H := ifF H hb23
                    refine Ok.skip ?_
                    refine Ok.region (σ' := ⟨[(0, (S a0)), (1, (.v (.int .u8 a1))), (5, (L 1 eS t3)), (6, (S (x6_14 ++ (rd t3 x7_10)))), (7, (.v (.int .i64 x7_10))), (8, (.v (.int .i64 (IntKind.i64.wrap (x8_17 + 1)))))], []⟩) ?_ ?_
                    · refine .cv (VOk.mv (d := (.v (.int .i64 x8_17))) rfl rfl) rfl rfl ?_
                      refine .cv (VOk.arith (op := .add) (k := .i64) (a := x8_17) (b := 1) rfl rfl rfl rfl) rfl rfl ?_
                      refine .cv (VOk.asg (d := (.v (.int .i64 (IntKind.i64.wrap (x8_17 + 1))))) rfl rfl) rfl rfl ?_
                      exact .done (.rf rfl rfl)
                    exact ⟨m19, Nat.lt_succ_self m19, (IntKind.i64.wrap (x8_17 + 1)), rfl, H⟩
                · replace H := ifF H hb24
                  refine Ok.exit ?_
                  refine Ok.region (σ' := ⟨[(0, (S a0)), (1, (.v (.int .u8 a1))), (5, (L 1 eS t3)), (6, (S (x6_14 ++ (rd t3 x7_10)))), (7, (.v (.int .i64 (IntKind.i64.wrap (x7_10 + 1)))))], []⟩) ?_ ?_
                  · refine .cv (VOk.mv (d := (.v (.int .i64 x7_10))) rfl rfl) rfl rfl ?_
                    refine .cv (VOk.arith (op := .add) (k := .i64) (a := x7_10) (b := 1) rfl rfl rfl rfl) rfl rfl ?_
                    refine .cv (VOk.asg (d := (.v (.int .i64 (IntKind.i64.wrap (x7_10 + 1))))) rfl rfl) rfl rfl ?_
                    exact .done (.rf rfl rfl)
                  exact ⟨m13, Nat.lt_succ_self m13, (x6_14 ++ (rd t3 x7_10)), (IntKind.i64.wrap (x7_10 + 1)), rfl, H⟩
          · replace H := ifF H hb27
            refine Ok.exit ?_
            refine Ok.seq ?_
            refine Ok.region (σ' := ⟨[(4, (.v (.bool (x6_9 == a0))))], []⟩) ?_ ?_
            · refine .cv (VOk.mv (d := (S x6_9)) rfl rfl) rfl rfl ?_
              refine .cv (VOk.mv (d := (S a0)) rfl rfl) rfl rfl ?_
              refine .cv (VOk.strOp (op := .eql) (a := x6_9) (b := a0) rfl rfl rfl rfl) rfl rfl ?_
              refine .cv (VOk.asg (d := (.v (.bool (x6_9 == a0)))) rfl rfl) rfl rfl ?_
              exact .done (.rf rfl rfl)
            refine Ok.ret ?_
            obtain rfl := Option.some.inj H
            exact ⟨.inl rfl, ⟨_, (.cons (.tmp rfl) .nil), rfl⟩, trivial⟩

/-! watchbill/watchbilllaw09.PctParts: function 6 -/
def watchbilllaw09_PctParts (k : Nat) (a0 : Str) (a1 : Str) (a2 : Str) : Option Bool := ((watchbilllaw09_awake k).bind fun (t1 : Bool) => (if (!t1) = true then some false else (if (((decide ((a0.length : Int) > 5000)) || (decide ((a1.length : Int) > 5000))) || (decide ((a2.length : Int) > 1000))) = true then some true else ((pct_Decode k a0).bind fun (t7 : Str × Int) => ((pct_Decode k a1).bind fun (t9 : Str × Int) => (if a0.length + a1.length ≤ 9223372036854775807 then ((pct_Decode k (a0 ++ a1)).bind fun (t12 : Str × Int) => (if ((((t7.2 == 0) && (t9.2 == 0)) == true) = true → t7.1.length + t9.1.length ≤ 9223372036854775807) then (if (((t7.2 == 0) && (t9.2 == 0)) && ((!(t12.1 == (t7.1 ++ t9.1))) || (t12.2 != 0))) = true then some false else (if a0.length + a1.length ≤ 9223372036854775807 then ((pct_Encode k (a0 ++ a1) a2).bind fun (t22 : Str) => ((pct_Encode k a0 a2).bind fun (t24 : Str) => ((pct_Encode k a1 a2).bind fun (t26 : Str) => (if t24.length + t26.length ≤ 9223372036854775807 then some (t22 == (t24 ++ t26)) else none)))) else none)) else none)) else none))))))
theorem watchbilllaw09_PctParts.ok {k : Nat} {a0 : Str} {a1 : Str} {a2 : Str} {r : Bool} (H : watchbilllaw09_PctParts k a0 a1 a2 = some r) : Vx.Fn Tryd.prog 6 [(S a0), (S a1), (S a2)] [] (.v (.bool r)) [] := by
  unfold watchbilllaw09_PctParts at H
  refine Vx.Fn.of_okR Tryd.func6 rfl (Nat.le_of_ble_eq_true rfl) ?_
  refine Ok.seq ?_
  refine Ok.region (σ' := ⟨[(0, (S a0)), (1, (S a1)), (2, (S a2))], []⟩) ?_ ?_
  · refine .cv (VOk.asg (d := (.v (.bool false))) rfl rfl) rfl rfl ?_
    exact .done (.rf rfl rfl)
  refine Ok.seq ?_
  refine Ok.seq ?_
  obtain ⟨t1, h2, H⟩ := bindE H
  refine Ok.region (σ' := ⟨[(0, (S a0)), (1, (S a1)), (2, (S a2)), (14, (.v (.bool (!t1))))], []⟩) ?_ ?_
  · refine .cg (GOk.call rfl rfl cl7 rfl (watchbilllaw09_awake.ok h2) rfl) rfl rfl ?_
    refine .cv (VOk.not (b := t1) rfl rfl) rfl rfl ?_
    exact .done (.rf rfl rfl)
  refine Ok.test (b := (!t1)) rfl (fun hb31 => ?_) (fun hb31 => ?_)
  · replace H := ifT H hb31
    refine Ok.seq ?_
    refine Ok.region (σ' := ⟨[(6, (.v (.bool false)))], []⟩) ?_ ?_
    · refine .cv (VOk.asg (d := (.v (.bool false))) rfl rfl) rfl rfl ?_
      exact .done (.rf rfl rfl)
    refine Ok.ret ?_
    obtain rfl := Option.some.inj H
    exact ⟨.inl rfl, ⟨_, (.cons (.tmp rfl) .nil), rfl⟩, trivial⟩
  · replace H := ifF H hb31
    refine Ok.skip ?_
    refine Ok.seq ?_
    refine Ok.seq ?_
    refine Ok.region (σ' := ⟨[(0, (S a0)), (1, (S a1)), (2, (S a2)), (27, (.v (.bool (((decide ((a0.length : Int) > 5000)) || (decide ((a1.length : Int) > 5000))) || (decide ((a2.length : Int) > 1000))))))], []⟩) ?_ ?_
    · refine .cv (VOk.mv (d := (S a0)) rfl rfl) rfl rfl ?_
      refine .cv (VOk.lenStr (s := a0) rfl Tryd.underlying9 rfl) rfl rfl ?_
      refine .cv (VOk.arith (op := .gtr) (k := .i64) (a := (a0.length : Int)) (b := 5000) rfl rfl rfl rfl) rfl rfl ?_
      refine .cv (VOk.mv (d := (.v (.bool (decide ((a0.length : Int) > 5000))))) rfl rfl) rfl rfl ?_
      refine OpsOk.consI rfl rfl rfl (.one rfl) rfl (fun hw3 => (VOk.g (VOk.mv (d := (S a1)) rfl rfl))) ?_
      refine OpsOk.consI rfl rfl rfl (.one rfl) rfl (fun hw3 => (GOk.fr (fr' := [(19, (S a1))]) ⟨DLe.of_eq (cT hw3).symm, trivial⟩ (VOk.g (VOk.lenStr (s := a1) rfl Tryd.underlying9 rfl)))) ?_
      refine OpsOk.consI rfl rfl rfl (.one rfl) rfl (fun hw3 => (GOk.fr (fr' := [(20, (.v (.int .i64 (a1.length : Int))))]) ⟨DLe.of_eq (cT hw3).symm, trivial⟩ (VOk.g (VOk.arith (op := .gtr) (k := .i64) (a := (a1.length : Int)) (b := 5000) rfl rfl rfl rfl)))) ?_
      refine .cv (VOk.to (VOk.pickI (b := (decide ((a0.length : Int) > 5000))) (p := true) (q := (decide ((a1.length : Int) > 5000))) rfl rfl (fun hp4 => rfl) (fun hp4 => (cT (f_beq hp4)))) (pickOr (decide ((a0.length : Int) > 5000)) (decide ((a1.length : Int) > 5000)))) rfl rfl ?_
      refine .cv (VOk.mv (d := (.v (.bool ((decide ((a0.length : Int) > 5000)) || (decide ((a1.length : Int) > 5000)))))) rfl rfl) rfl rfl ?_
      refine OpsOk.consI rfl rfl rfl (.one rfl) rfl (fun hw5 => (VOk.g (VOk.mv (d := (S a2)) rfl rfl))) ?_
      refine OpsOk.consI rfl rfl rfl (.one rfl) rfl (fun hw5 => (GOk.fr (fr' := [(24, (S a2))]) ⟨DLe.of_eq (cT hw5).symm, trivial⟩ (VOk.g (VOk.lenStr (s := a2) rfl Tryd.underlying9 rfl)))) ?_
      refine OpsOk.consI rfl rfl rfl (.one rfl) rfl (fun hw5 => (GOk.fr (fr' := [(25, (.v (.int .i64 (a2.length : Int))))]) ⟨DLe.of_eq (cT hw5).symm, trivial⟩ (VOk.g (VOk.arith (op := .gtr) (k := .i64) (a := (a2.length : Int)) (b := 1000) rfl rfl rfl rfl)))) ?_
      refine .cv (VOk.to (VOk.pickI (b := ((decide ((a0.length : Int) > 5000)) || (decide ((a1.length : Int) > 5000)))) (p := true) (q := (decide ((a2.length : Int) > 1000))) rfl rfl (fun hp6 => rfl) (fun hp6 => (cT (f_beq hp6)))) (pickOr ((decide ((a0.length : Int) > 5000)) || (decide ((a1.length : Int) > 5000))) (decide ((a2.length : Int) > 1000)))) rfl rfl ?_
      exact .done (.rf rfl rfl)
    refine Ok.test (b := (((decide ((a0.length : Int) > 5000)) || (decide ((a1.length : Int) > 5000))) || (decide ((a2.length : Int) > 1000)))) rfl (fun hb30 => ?_) (fun hb30 => ?_)
    · replace H := ifT H hb30
      refine Ok.seq ?_
      refine Ok.region (σ' := ⟨[(6, (.v (.bool true)))], []⟩) ?_ ?_
      · refine .cv (VOk.asg (d := (.v (.bool true))) rfl rfl) rfl rfl ?_
        exact .done (.rf rfl rfl)
      refine Ok.ret ?_
      obtain rfl := Option.some.inj H
      exact ⟨.inl rfl, ⟨_, (.cons (.tmp rfl) .nil), rfl⟩, trivial⟩
    · replace H := ifF H hb30
      refine Ok.skip ?_
      refine Ok.seq ?_
      obtain ⟨t7, h8, H⟩ := bindE H
      refine Ok.region (σ' := ⟨[(0, (S a0)), (1, (S a1)), (2, (S a2)), (7, (S t7.1)), (8, (.v (.int .i64 t7.2)))], []⟩) ?_ ?_
      · refine .cv (VOk.mv (d := (S a0)) rfl rfl) rfl rfl ?_
        refine .cg (GOk.call rfl rfl cl8 rfl (pct_Decode.ok h8) rfl) rfl rfl ?_
        refine .cv (VOk.mv (d := (.tup [(S t7.1), (.v (.int .i64 t7.2))])) rfl rfl) rfl rfl ?_
        refine .cv (VOk.extract (d := (S t7.1)) rfl rfl rfl) rfl rfl ?_
        refine .cv (VOk.extract (d := (.v (.int .i64 t7.2))) rfl rfl rfl) rfl rfl ?_
        refine .cv (VOk.asg (d := (S t7.1)) rfl rfl) rfl rfl ?_
        refine .cv (VOk.asg (d := (.v (.int .i64 t7.2))) rfl rfl) rfl rfl ?_
        exact .done (.rf rfl rfl)
      refine Ok.seq ?_
      obtain ⟨t9, h10, H⟩ := bindE H
      refine Ok.region (σ' := ⟨[(0, (S a0)), (1, (S a1)), (2, (S a2)), (7, (S t7.1)), (8, (.v (.int .i64 t7.2))), (9, (S t9.1)), (10, (.v (.int .i64 t9.2)))], []⟩) ?_ ?_
      · refine .cv (VOk.mv (d := (S a1)) rfl rfl) rfl rfl ?_
        refine .cg (GOk.call rfl rfl cl8 rfl (pct_Decode.ok h10) rfl) rfl rfl ?_
        refine .cv (VOk.mv (d := (.tup [(S t9.1), (.v (.int .i64 t9.2))])) rfl rfl) rfl rfl ?_
        refine .cv (VOk.extract (d := (S t9.1)) rfl rfl rfl) rfl rfl ?_
        refine .cv (VOk.extract (d := (.v (.int .i64 t9.2))) rfl rfl rfl) rfl rfl ?_
        refine .cv (VOk.asg (d := (S t9.1)) rfl rfl) rfl rfl ?_
        refine .cv (VOk.asg (d := (.v (.int .i64 t9.2))) rfl rfl) rfl rfl ?_
        exact .done (.rf rfl rfl)
      refine Ok.seq ?_
      obtain ⟨c11, H⟩ := assertE H
      obtain ⟨t12, h13, H⟩ := bindE H
      refine Ok.region (σ' := ⟨[(0, (S a0)), (1, (S a1)), (2, (S a2)), (7, (S t7.1)), (8, (.v (.int .i64 t7.2))), (9, (S t9.1)), (10, (.v (.int .i64 t9.2))), (11, (S t12.1)), (12, (.v (.int .i64 t12.2)))], []⟩) ?_ ?_
      · refine .cv (VOk.mv (d := (S a0)) rfl rfl) rfl rfl ?_
        refine .cv (VOk.mv (d := (S a1)) rfl rfl) rfl rfl ?_
        refine .cv (VOk.cat (a := a0) (b := a1) rfl rfl rfl c11) rfl rfl ?_
        refine .cg (GOk.call rfl rfl cl8 rfl (pct_Decode.ok h13) rfl) rfl rfl ?_
        refine .cv (VOk.mv (d := (.tup [(S t12.1), (.v (.int .i64 t12.2))])) rfl rfl) rfl rfl ?_
        refine .cv (VOk.extract (d := (S t12.1)) rfl rfl rfl) rfl rfl ?_
        refine .cv (VOk.extract (d := (.v (.int .i64 t12.2))) rfl rfl rfl) rfl rfl ?_
        refine .cv (VOk.asg (d := (S t12.1)) rfl rfl) rfl rfl ?_
        refine .cv (VOk.asg (d := (.v (.int .i64 t12.2))) rfl rfl) rfl rfl ?_
        exact .done (.rf rfl rfl)
      refine Ok.seq ?_
      refine Ok.seq ?_
      obtain ⟨c17, H⟩ := assertE H
      refine Ok.region (σ' := ⟨[(0, (S a0)), (1, (S a1)), (2, (S a2)), (61, (.v (.bool (((t7.2 == 0) && (t9.2 == 0)) && ((!(t12.1 == (t7.1 ++ t9.1))) || (t12.2 != 0))))))], []⟩) ?_ ?_
      · refine .cv (VOk.mv (d := (.v (.int .i64 t7.2))) rfl rfl) rfl rfl ?_
        refine .cv (VOk.arith (op := .eql) (k := .i64) (a := t7.2) (b := 0) rfl rfl rfl rfl) rfl rfl ?_
        refine .cv (VOk.mv (d := (.v (.bool (t7.2 == 0)))) rfl rfl) rfl rfl ?_
        refine OpsOk.consI rfl rfl rfl (.one rfl) rfl (fun hw14 => (VOk.g (VOk.mv (d := (.v (.int .i64 t9.2))) rfl rfl))) ?_
        refine OpsOk.consI rfl rfl rfl (.one rfl) rfl (fun hw14 => (GOk.fr (fr' := [(48, (.v (.int .i64 t9.2)))]) ⟨DLe.of_eq (cT hw14).symm, trivial⟩ (VOk.g (VOk.arith (op := .eql) (k := .i64) (a := t9.2) (b := 0) rfl rfl rfl rfl)))) ?_
        refine .cv (VOk.to (VOk.pickI (b := (t7.2 == 0)) (p := (t9.2 == 0)) (q := false) rfl rfl (fun hp15 => (cT (t_beq hp15))) (fun hp15 => rfl)) (pickAnd (t7.2 == 0) (t9.2 == 0))) rfl rfl ?_
        refine .cv (VOk.mv (d := (.v (.bool ((t7.2 == 0) && (t9.2 == 0))))) rfl rfl) rfl rfl ?_
        refine OpsOk.consI rfl rfl rfl (.one rfl) rfl (fun hw16 => (VOk.g (VOk.mv (d := (S t12.1)) rfl rfl))) ?_
        refine OpsOk.consI rfl rfl rfl (.one rfl) rfl (fun hw16 => (VOk.g (VOk.mv (d := (S t7.1)) rfl rfl))) ?_
        refine OpsOk.consI rfl rfl rfl (.one rfl) rfl (fun hw16 => (VOk.g (VOk.mv (d := (S t9.1)) rfl rfl))) ?_
        refine OpsOk.consI rfl rfl rfl (.one rfl) rfl (fun hw16 => (GOk.fr (fr' := [(53, (S t7.1)), (54, (S t9.1))]) ⟨DLe.of_eq (cT hw16).symm, DLe.of_eq (cT hw16).symm, trivial⟩ (VOk.g (VOk.cat (a := t7.1) (b := t9.1) rfl rfl rfl (c17 hw16))))) ?_
        refine OpsOk.consI rfl rfl rfl (.one rfl) rfl (fun hw16 => (GOk.fr (fr' := [(52, (S t12.1)), (55, (S (t7.1 ++ t9.1)))]) ⟨DLe.of_eq (cT hw16).symm, DLe.of_eq (cT hw16).symm, trivial⟩ (VOk.g (VOk.strOp (op := .neq) (a := t12.1) (b := (t7.1 ++ t9.1)) rfl rfl rfl rfl)))) ?_
        refine OpsOk.consI rfl rfl rfl (.one rfl) rfl (fun hw16 => (GOk.fr (fr' := [(56, (.v (.bool (!(t12.1 == (t7.1 ++ t9.1))))))]) ⟨DLe.of_eq (cT hw16).symm, trivial⟩ (VOk.g (VOk.mv (d := (.v (.bool (!(t12.1 == (t7.1 ++ t9.1)))))) rfl rfl)))) ?_
        refine OpsOk.consI rfl rfl rfl (.two rfl) rfl (fun hw18 => (VOk.g (VOk.mv (d := (.v (.int .i64 t12.2))) rfl rfl))) ?_
        refine OpsOk.consI rfl rfl rfl (.two rfl) rfl (fun hw18 => (GOk.fr (fr' := [(58, (.v (.int .i64 t12.2)))]) ⟨DLe.of_eq (cT hw18).symm, trivial⟩ (VOk.g (VOk.arith (op := .neq) (k := .i64) (a := t12.2) (b := 0) rfl rfl rfl rfl)))) ?_
        refine OpsOk.consI rfl rfl rfl (.one rfl) rfl (fun hw16 => (VOk.g (VOk.to (VOk.pickI (b := (!(t12.1 == (t7.1 ++ t9.1)))) (p := true) (q := (t12.2 != 0)) rfl (cT hw16) (fun hp19 => rfl) (fun hp19 => (cT (and_i hw16 (f_beq hp19))))) (pickOr (!(t12.1 == (t7.1 ++ t9.1))) (t12.2 != 0))))) ?_
        refine .cv (VOk.to (VOk.pickI (b := ((t7.2 == 0) && (t9.2 == 0))) (p := ((!(t12.1 == (t7.1 ++ t9.1))) || (t12.2 != 0))) (q := false) rfl rfl (fun hp20 => (cT (t_beq hp20))) (fun hp20 => rfl)) (pickAnd ((t7.2 == 0) && (t9.2 == 0)) ((!(t12.1 == (t7.1 ++ t9.1))) || (t12.2 != 0)))) rfl rfl ?_
        exact .done (.rf rfl rfl)
      refine Ok.test (b := (((t7.2 == 0) && (t9.2 == 0)) && ((!(t12.1 == (t7.1 ++ t9.1))) || (t12.2 != 0)))) rfl (fun hb29 => ?_) (fun hb29 => ?_)
      · replace H := ifT H hb29
        refine Ok.seq ?_
        refine Ok.region (σ' := ⟨[(6, (.v (.bool false)))], []⟩) ?_ ?_
        · refine .cv (VOk.asg (d := (.v (.bool false))) rfl rfl) rfl rfl ?_
          exact .done (.rf rfl rfl)
        refine Ok.ret ?_
        obtain rfl := Option.some.inj H
        exact ⟨.inl rfl, ⟨_, (.cons (.tmp rfl) .nil), rfl⟩, trivial⟩
      · replace H := ifF H hb29
        refine Ok.skip ?_
        refine Ok.seq ?_
        obtain ⟨c21, H⟩ := assertE H
        obtain ⟨t22, h23, H⟩ := bindE H
        obtain ⟨t24, h25, H⟩ := bindE H
        obtain ⟨t26, h27, H⟩ := bindE H
        obtain ⟨c28, H⟩ := assertE H
        refine Ok.region (σ' := ⟨[(6, (.v (.bool (t22 == (t24 ++ t26)))))], []⟩) ?_ ?_
        · refine .cv (VOk.mv (d := (S a0)) rfl rfl) rfl rfl ?_
          refine .cv (VOk.mv (d := (S a1)) rfl rfl) rfl rfl ?_
          refine .cv (VOk.cat (a := a0) (b := a1) rfl rfl rfl c21) rfl rfl ?_
          refine .cv (VOk.mv (d := (S a2)) rfl rfl) rfl rfl ?_
          refine .cg (GOk.call rfl rfl cl10 rfl (pct_Encode.ok h23) rfl) rfl rfl ?_
          refine .cv (VOk.mv (d := (S a0)) rfl rfl) rfl rfl ?_
          refine .cv (VOk.mv (d := (S a2)) rfl rfl) rfl rfl ?_
          refine .cg (GOk.call rfl rfl cl10 rfl (pct_Encode.ok h25) rfl) rfl rfl ?_
          refine .cv (VOk.mv (d := (S a1)) rfl rfl) rfl rfl ?_
          refine .cv (VOk.mv (d := (S a2)) rfl rfl) rfl rfl ?_
          refine .cg (GOk.call rfl rfl cl10 rfl (pct_Encode.ok h27) rfl) rfl rfl ?_
          refine .cv (VOk.cat (a := t24) (b := t26) rfl rfl rfl c28) rfl rfl ?_
          refine .cv (VOk.strOp (op := .eql) (a := t22) (b := (t24 ++ t26)) rfl rfl rfl rfl) rfl rfl ?_
          refine .cv (VOk.asg (d := (.v (.bool (t22 == (t24 ++ t26))))) rfl rfl) rfl rfl ?_
          exact .done (.rf rfl rfl)
        refine Ok.ret ?_
        obtain rfl := Option.some.inj H
        exact ⟨.inl rfl, ⟨_, (.cons (.tmp rfl) .nil), rfl⟩, trivial⟩

end Go.Proofs.YtdbajkdhjfhmiaaDoor.Sh
