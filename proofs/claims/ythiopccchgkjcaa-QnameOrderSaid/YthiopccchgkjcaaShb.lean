import Derived.Test.YthiopccchgkjcaaProg
import Derived.Test.YthiopccchgkjcaaSha
namespace Go.Proofs.Ythiopccchgkjcaa.Sh
open Go Go.RowKit Go.Proofs.Vx
set_option linter.unusedVariables false

set_option maxRecDepth 100000
set_option maxHeartbeats 1000000
/-! watchbill/watchbillref01.value: function 48 -/
def watchbillref01_value.l0 (k : Nat) (a0 : Str) : Nat → Int → Int → Option Int
  | 0, _, _ => none
  | m7 + 1, x3_3, x4_4 => (if (decide (x4_4 < (a0.length : Int))) = true then (if (0 : Int) ≤ x4_4 ∧ x4_4 < (a0.length : Int) then watchbillref01_value.l0 k a0 m7 (IntKind.i64.wrap ((IntKind.i64.wrap ((IntKind.i64.wrap (x3_3 * 64)) + (IntKind.i64.wrap (bt a0 x4_4)))) - 128)) (IntKind.i64.wrap (x4_4 + 1)) else none) else some x3_3)
def watchbillref01_value.j1 (k : Nat) (a0 : Str) (x3_2 : Int) : Option Int := watchbillref01_value.l0 k a0 k x3_2 1
def watchbillref01_value (k : Nat) (a0 : Str) : Option Int := (if (0 : Int) ≤ 0 ∧ 0 < (a0.length : Int) then (if ((a0.length : Int) == 2) = true then watchbillref01_value.j1 k a0 (IntKind.i64.wrap ((IntKind.i64.wrap (bt a0 0)) - 192)) else (if ((a0.length : Int) == 3) = true then watchbillref01_value.j1 k a0 (IntKind.i64.wrap ((IntKind.i64.wrap (bt a0 0)) - 224)) else (if ((a0.length : Int) == 4) = true then watchbillref01_value.j1 k a0 (IntKind.i64.wrap ((IntKind.i64.wrap (bt a0 0)) - 240)) else watchbillref01_value.j1 k a0 (IntKind.i64.wrap (bt a0 0))))) else none)
theorem watchbillref01_value.ok {k : Nat} {a0 : Str} {r : Int} (H : watchbillref01_value k a0 = some r) : Vx.Fn Try.prog 48 [(S a0)] [] (.v (.int .i64 r)) [] := by
  unfold watchbillref01_value at H
  refine Vx.Fn.of_okR Try.func48 rfl (Nat.le_of_ble_eq_true rfl) ?_
  refine Ok.seq ?_
  refine Ok.region (σ' := ⟨[(0, (S a0))], []⟩) ?_ ?_
  · refine OpsOk.cons rfl (.v (VOk.asg (d := (.v (.int .i64 0))) rfl rfl) rfl) ?_
    exact .done (.mk ⟨.same _, trivial⟩ trivial)
  refine Ok.seq ?_
  obtain ⟨c1, H⟩ := assertE H
  refine Ok.region (σ' := ⟨[(0, (S a0)), (3, (.v (.int .i64 (IntKind.i64.wrap (bt a0 0)))))], []⟩) ?_ ?_
  · refine OpsOk.cons rfl (.v (VOk.mv (d := (S a0)) rfl rfl) rfl) ?_
    refine OpsOk.cons rfl (.v (VOk.indexStr (s := a0) (i := 0) rfl Try.underlying9 rfl rfl c1) rfl) ?_
    refine OpsOk.cons rfl (.v (VOk.convInt (a := (bt a0 0)) rfl (by rw [Try.underlying5]; rfl) Try.underlying3 rfl) rfl) ?_
    refine OpsOk.cons rfl (.v (VOk.asg (d := (.v (.int .i64 (IntKind.i64.wrap (bt a0 0))))) rfl rfl) rfl) ?_
    exact .done (.mk ⟨.same _, .same _, trivial⟩ trivial)
  refine Ok.meet (fun σ => ∃ (x3_2 : Int), σ = ⟨[(0, (S a0)), (3, (.v (.int .i64 x3_2)))], []⟩ ∧ watchbillref01_value.j1 k a0 x3_2 = some r) ?_ ?_
  · refine Ok.seq ?_
    refine Ok.region (σ' := ⟨[(0, (S a0)), (3, (.v (.int .i64 (IntKind.i64.wrap (bt a0 0))))), (9, (.v (.int .i64 (a0.length : Int))))], []⟩) ?_ ?_
    · refine OpsOk.cons rfl (.v (VOk.mv (d := (S a0)) rfl rfl) rfl) ?_
      refine OpsOk.cons rfl (.v (VOk.lenStr (s := a0) rfl Try.underlying9 rfl) rfl) ?_
      exact .done (.mk ⟨.same _, .same _, .same _, trivial⟩ trivial)
    refine Ok.block ?_
    refine Ok.seq ?_
    refine Ok.region (σ' := ⟨[(0, (S a0)), (3, (.v (.int .i64 (IntKind.i64.wrap (bt a0 0))))), (9, (.v (.int .i64 (a0.length : Int)))), (10, (.v (.bool ((a0.length : Int) == 2))))], []⟩) ?_ ?_
    · refine OpsOk.cons rfl (.v (VOk.arith (op := .eql) (k := .i64) (a := (a0.length : Int)) (b := 2) rfl rfl rfl rfl) rfl) ?_
      refine OpsOk.cons rfl (.v (VOk.asg (d := (.v (.bool ((a0.length : Int) == 2)))) rfl rfl) rfl) ?_
      exact .done (.mk ⟨.same _, .same _, .same _, .same _, trivial⟩ trivial)
    refine Ok.test (b := ((a0.length : Int) == 2)) rfl (fun hb12 => ?_) (fun hb12 => ?_)
    · replace H := ifT H hb12
      refine Ok.region (σ' := ⟨[(0, (S a0)), (3, (.v (.int .i64 (IntKind.i64.wrap ((IntKind.i64.wrap (bt a0 0)) - 192)))))], []⟩) ?_ ?_
      · refine OpsOk.cons rfl (.v (VOk.mv (d := (.v (.int .i64 (IntKind.i64.wrap (bt a0 0))))) rfl rfl) rfl) ?_
        refine OpsOk.cons rfl (.v (VOk.arith (op := .sub) (k := .i64) (a := (IntKind.i64.wrap (bt a0 0))) (b := 192) rfl rfl rfl rfl) rfl) ?_
        refine OpsOk.cons rfl (.v (VOk.asg (d := (.v (.int .i64 (IntKind.i64.wrap ((IntKind.i64.wrap (bt a0 0)) - 192))))) rfl rfl) rfl) ?_
        exact .done (.mk ⟨.same _, .same _, trivial⟩ trivial)
      exact ⟨(IntKind.i64.wrap ((IntKind.i64.wrap (bt a0 0)) - 192)), rfl, H⟩
    · replace H := ifF H hb12
      refine Ok.seq ?_
      refine Ok.region (σ' := ⟨[(0, (S a0)), (3, (.v (.int .i64 (IntKind.i64.wrap (bt a0 0))))), (9, (.v (.int .i64 (a0.length : Int)))), (14, (.v (.bool ((a0.length : Int) == 3))))], []⟩) ?_ ?_
      · refine OpsOk.cons rfl (.v (VOk.arith (op := .eql) (k := .i64) (a := (a0.length : Int)) (b := 3) rfl rfl rfl rfl) rfl) ?_
        refine OpsOk.cons rfl (.v (VOk.asg (d := (.v (.bool ((a0.length : Int) == 3)))) rfl rfl) rfl) ?_
        exact .done (.mk ⟨.same _, .same _, .same _, .same _, trivial⟩ trivial)
      refine Ok.test (b := ((a0.length : Int) == 3)) rfl (fun hb11 => ?_) (fun hb11 => ?_)
      · replace H := ifT H hb11
        refine Ok.region (σ' := ⟨[(0, (S a0)), (3, (.v (.int .i64 (IntKind.i64.wrap ((IntKind.i64.wrap (bt a0 0)) - 224)))))], []⟩) ?_ ?_
        · refine OpsOk.cons rfl (.v (VOk.mv (d := (.v (.int .i64 (IntKind.i64.wrap (bt a0 0))))) rfl rfl) rfl) ?_
          refine OpsOk.cons rfl (.v (VOk.arith (op := .sub) (k := .i64) (a := (IntKind.i64.wrap (bt a0 0))) (b := 224) rfl rfl rfl rfl) rfl) ?_
          refine OpsOk.cons rfl (.v (VOk.asg (d := (.v (.int .i64 (IntKind.i64.wrap ((IntKind.i64.wrap (bt a0 0)) - 224))))) rfl rfl) rfl) ?_
          exact .done (.mk ⟨.same _, .same _, trivial⟩ trivial)
        exact ⟨(IntKind.i64.wrap ((IntKind.i64.wrap (bt a0 0)) - 224)), rfl, H⟩
      · replace H := ifF H hb11
        refine Ok.seq ?_
        refine Ok.region (σ' := ⟨[(0, (S a0)), (3, (.v (.int .i64 (IntKind.i64.wrap (bt a0 0))))), (18, (.v (.bool ((a0.length : Int) == 4))))], []⟩) ?_ ?_
        · refine OpsOk.cons rfl (.v (VOk.arith (op := .eql) (k := .i64) (a := (a0.length : Int)) (b := 4) rfl rfl rfl rfl) rfl) ?_
          refine OpsOk.cons rfl (.v (VOk.asg (d := (.v (.bool ((a0.length : Int) == 4)))) rfl rfl) rfl) ?_
          exact .done (.mk ⟨.same _, .same _, .same _, trivial⟩ trivial)
        refine Ok.test (b := ((a0.length : Int) == 4)) rfl (fun hb10 => ?_) (fun hb10 => ?_)
        · replace H := ifT H hb10
          refine Ok.region (σ' := ⟨[(0, (S a0)), (3, (.v (.int .i64 (IntKind.i64.wrap ((IntKind.i64.wrap (bt a0 0)) - 240)))))], []⟩) ?_ ?_
          · refine OpsOk.cons rfl (.v (VOk.mv (d := (.v (.int .i64 (IntKind.i64.wrap (bt a0 0))))) rfl rfl) rfl) ?_
            refine OpsOk.cons rfl (.v (VOk.arith (op := .sub) (k := .i64) (a := (IntKind.i64.wrap (bt a0 0))) (b := 240) rfl rfl rfl rfl) rfl) ?_
            refine OpsOk.cons rfl (.v (VOk.asg (d := (.v (.int .i64 (IntKind.i64.wrap ((IntKind.i64.wrap (bt a0 0)) - 240))))) rfl rfl) rfl) ?_
            exact .done (.mk ⟨.same _, .same _, trivial⟩ trivial)
          exact ⟨(IntKind.i64.wrap ((IntKind.i64.wrap (bt a0 0)) - 240)), rfl, H⟩
        · replace H := ifF H hb10
          refine Ok.le (σ' := ⟨[(0, (S a0)), (3, (.v (.int .i64 (IntKind.i64.wrap (bt a0 0)))))], []⟩) (.mk ⟨.same _, .same _, trivial⟩ trivial) ?_
          refine Ok.skip ?_
          exact ⟨(IntKind.i64.wrap (bt a0 0)), rfl, H⟩
  · rintro σ ⟨x3_2, rfl, H⟩
    unfold watchbillref01_value.j1 at H
    refine Ok.seq ?_
    refine Ok.seq ?_
    refine Ok.region (σ' := ⟨[(0, (S a0)), (3, (.v (.int .i64 x3_2))), (4, (.v (.int .i64 1)))], []⟩) ?_ ?_
    · refine OpsOk.cons rfl (.v (VOk.asg (d := (.v (.int .i64 1))) rfl rfl) rfl) ?_
      exact .done (.mk ⟨.same _, .same _, .same _, trivial⟩ trivial)
    refine Ok.block ?_
    refine Ok.le (σ' := ⟨[(0, (S a0)), (3, (.v (.int .i64 x3_2))), (4, (.v (.int .i64 1)))], []⟩) (.mk ⟨.same _, .same _, .same _, trivial⟩ trivial) ?_
    refine Ok.loop (fun m7 σ => ∃ (x3_3 : Int) (x4_4 : Int), σ = ⟨[(0, (S a0)), (3, (.v (.int .i64 x3_3))), (4, (.v (.int .i64 x4_4)))], []⟩ ∧ watchbillref01_value.l0 k a0 m7 x3_3 x4_4 = some r) k ⟨x3_2, 1, rfl, H⟩ ?_
    rintro m7 σ ⟨x3_3, x4_4, rfl, H⟩
    cases m7 with
    | zero => exact absurd H (by simp [watchbillref01_value.l0])
    | succ m7 =>
      unfold watchbillref01_value.l0 at H
      refine Ok.seq ?_
      refine Ok.seq ?_
      refine Ok.region (σ' := ⟨[(0, (S a0)), (3, (.v (.int .i64 x3_3))), (4, (.v (.int .i64 x4_4))), (25, (.v (.bool (decide (x4_4 < (a0.length : Int))))))], []⟩) ?_ ?_
      · refine OpsOk.cons rfl (.v (VOk.mv (d := (.v (.int .i64 x4_4))) rfl rfl) rfl) ?_
        refine OpsOk.cons rfl (.v (VOk.mv (d := (S a0)) rfl rfl) rfl) ?_
        refine OpsOk.cons rfl (.v (VOk.lenStr (s := a0) rfl Try.underlying9 rfl) rfl) ?_
        refine OpsOk.cons rfl (.v (VOk.arith (op := .lss) (k := .i64) (a := x4_4) (b := (a0.length : Int)) rfl rfl rfl rfl) rfl) ?_
        exact .done (.mk ⟨.same _, .same _, .same _, .same _, trivial⟩ trivial)
      refine Ok.test (b := (decide (x4_4 < (a0.length : Int)))) rfl (fun hb9 => ?_) (fun hb9 => ?_)
      · replace H := ifT H hb9
        refine Ok.le (σ' := ⟨[(0, (S a0)), (3, (.v (.int .i64 x3_3))), (4, (.v (.int .i64 x4_4)))], []⟩) (.mk ⟨.same _, .same _, .same _, trivial⟩ trivial) ?_
        refine Ok.skip ?_
        refine Ok.seq ?_
        refine Ok.block ?_
        obtain ⟨c8, H⟩ := assertE H
        refine Ok.region (σ' := ⟨[(0, (S a0)), (3, (.v (.int .i64 (IntKind.i64.wrap ((IntKind.i64.wrap ((IntKind.i64.wrap (x3_3 * 64)) + (IntKind.i64.wrap (bt a0 x4_4)))) - 128))))), (4, (.v (.int .i64 x4_4)))], []⟩) ?_ ?_
        · refine OpsOk.cons rfl (.v (VOk.mv (d := (.v (.int .i64 x3_3))) rfl rfl) rfl) ?_
          refine OpsOk.cons rfl (.v (VOk.arith (op := .mul) (k := .i64) (a := x3_3) (b := 64) rfl rfl rfl rfl) rfl) ?_
          refine OpsOk.cons rfl (.v (VOk.mv (d := (S a0)) rfl rfl) rfl) ?_
          refine OpsOk.cons rfl (.v (VOk.mv (d := (.v (.int .i64 x4_4))) rfl rfl) rfl) ?_
          refine OpsOk.cons rfl (.v (VOk.indexStr (s := a0) (i := x4_4) rfl Try.underlying9 rfl rfl c8) rfl) ?_
          refine OpsOk.cons rfl (.v (VOk.convInt (a := (bt a0 x4_4)) rfl (by rw [Try.underlying5]; rfl) Try.underlying3 rfl) rfl) ?_
          refine OpsOk.cons rfl (.v (VOk.arith (op := .add) (k := .i64) (a := (IntKind.i64.wrap (x3_3 * 64))) (b := (IntKind.i64.wrap (bt a0 x4_4))) rfl rfl rfl rfl) rfl) ?_
          refine OpsOk.cons rfl (.v (VOk.arith (op := .sub) (k := .i64) (a := (IntKind.i64.wrap ((IntKind.i64.wrap (x3_3 * 64)) + (IntKind.i64.wrap (bt a0 x4_4))))) (b := 128) rfl rfl rfl rfl) rfl) ?_
          refine OpsOk.cons rfl (.v (VOk.asg (d := (.v (.int .i64 (IntKind.i64.wrap ((IntKind.i64.wrap ((IntKind.i64.wrap (x3_3 * 64)) + (IntKind.i64.wrap (bt a0 x4_4)))) - 128))))) rfl rfl) rfl) ?_
          exact .done (.mk ⟨.same _, .same _, .same _, trivial⟩ trivial)
        refine Ok.region (σ' := ⟨[(0, (S a0)), (3, (.v (.int .i64 (IntKind.i64.wrap ((IntKind.i64.wrap ((IntKind.i64.wrap (x3_3 * 64)) + (IntKind.i64.wrap (bt a0 x4_4)))) - 128))))), (4, (.v (.int .i64 (IntKind.i64.wrap (x4_4 + 1)))))], []⟩) ?_ ?_
        · refine OpsOk.cons rfl (.v (VOk.mv (d := (.v (.int .i64 x4_4))) rfl rfl) rfl) ?_
          refine OpsOk.cons rfl (.v (VOk.arith (op := .add) (k := .i64) (a := x4_4) (b := 1) rfl rfl rfl rfl) rfl) ?_
          refine OpsOk.cons rfl (.v (VOk.asg (d := (.v (.int .i64 (IntKind.i64.wrap (x4_4 + 1))))) rfl rfl) rfl) ?_
          exact .done (.mk ⟨.same _, .same _, .same _, trivial⟩ trivial)
        exact ⟨m7, Nat.lt_succ_self m7, (IntKind.i64.wrap ((IntKind.i64.wrap ((IntKind.i64.wrap (x3_3 * 64)) + (IntKind.i64.wrap (bt a0 x4_4)))) - 128)), (IntKind.i64.wrap (x4_4 + 1)), rfl, H⟩
      · replace H := ifF H hb9
        refine Ok.le (σ' := ⟨[(3, (.v (.int .i64 x3_3)))], []⟩) (.mk ⟨.same _, trivial⟩ trivial) ?_
        refine Ok.exit ?_
        refine Ok.seq ?_
        refine Ok.region (σ' := ⟨[(2, (.v (.int .i64 x3_3)))], []⟩) ?_ ?_
        · refine OpsOk.cons rfl (.v (VOk.mv (d := (.v (.int .i64 x3_3))) rfl rfl) rfl) ?_
          refine OpsOk.cons rfl (.v (VOk.asg (d := (.v (.int .i64 x3_3))) rfl rfl) rfl) ?_
          exact .done (.mk ⟨.same _, trivial⟩ trivial)
        refine Ok.le (σ' := ⟨[(2, (.v (.int .i64 x3_3)))], []⟩) (.mk ⟨.same _, trivial⟩ trivial) ?_
        refine Ok.ret ?_
        obtain rfl := Option.some.inj H
        exact ⟨.inl rfl, ⟨_, (.cons (.tmp rfl) .nil), rfl⟩, trivial⟩

/-! watchbill/watchbillref01.Sign: function 49 -/
def watchbillref01_Sign (a0 : Int) : Option Bool := some (((decide (a0 ≥ 0)) && (decide (a0 ≤ 1114111))) && ((decide (a0 < 55296)) || (decide (a0 > 57343))))
theorem watchbillref01_Sign.ok {a0 : Int} {r : Bool} (H : watchbillref01_Sign a0 = some r) : Vx.Fn Try.prog 49 [(.v (.int .i64 a0))] [] (.v (.bool r)) [] := by
  unfold watchbillref01_Sign at H
  refine Vx.Fn.of_okR Try.func49 rfl (Nat.le_of_ble_eq_true rfl) ?_
  refine Ok.seq ?_
  refine Ok.region (σ' := ⟨[(0, (.v (.int .i64 a0)))], []⟩) ?_ ?_
  · refine OpsOk.cons rfl (.v (VOk.asg (d := (.v (.bool false))) rfl rfl) rfl) ?_
    exact .done (.mk ⟨.same _, trivial⟩ trivial)
  refine Ok.seq ?_
  refine Ok.region (σ' := ⟨[(2, (.v (.bool (((decide (a0 ≥ 0)) && (decide (a0 ≤ 1114111))) && ((decide (a0 < 55296)) || (decide (a0 > 57343)))))))], []⟩) ?_ ?_
  · refine OpsOk.cons rfl (.v (VOk.mv (d := (.v (.int .i64 a0))) rfl rfl) rfl) ?_
    refine OpsOk.cons rfl (.v (VOk.arith (op := .geq) (k := .i64) (a := a0) (b := 0) rfl rfl rfl rfl) rfl) ?_
    refine OpsOk.cons rfl (.v (VOk.mv (d := (.v (.bool (decide (a0 ≥ 0))))) rfl rfl) rfl) ?_
    refine OpsOk.consI rfl rfl rfl (.one rfl) rfl (fun hw1 => (VOk.g (VOk.mv (d := (.v (.int .i64 a0))) rfl rfl))) ?_
    refine OpsOk.consI rfl rfl rfl (.one rfl) rfl (fun hw1 => (GOk.fr (fr' := [(6, (.v (.int .i64 a0)))]) ⟨DLe.of_eq (cT hw1).symm, trivial⟩ (VOk.g (VOk.arith (op := .leq) (k := .i64) (a := a0) (b := 1114111) rfl rfl rfl rfl)))) ?_
    refine OpsOk.cons rfl (.v (VOk.to (VOk.pickI (b := (decide (a0 ≥ 0))) (p := (decide (a0 ≤ 1114111))) (q := false) rfl rfl (fun hp2 => (cT (t_beq hp2))) (fun hp2 => rfl)) (pickAnd (decide (a0 ≥ 0)) (decide (a0 ≤ 1114111)))) rfl) ?_
    refine OpsOk.cons rfl (.v (VOk.mv (d := (.v (.bool ((decide (a0 ≥ 0)) && (decide (a0 ≤ 1114111)))))) rfl rfl) rfl) ?_
    refine OpsOk.consI rfl rfl rfl (.one rfl) rfl (fun hw3 => (VOk.g (VOk.mv (d := (.v (.int .i64 a0))) rfl rfl))) ?_
    refine OpsOk.consI rfl rfl rfl (.one rfl) rfl (fun hw3 => (GOk.fr (fr' := [(10, (.v (.int .i64 a0)))]) ⟨DLe.of_eq (cT hw3).symm, trivial⟩ (VOk.g (VOk.arith (op := .lss) (k := .i64) (a := a0) (b := 55296) rfl rfl rfl rfl)))) ?_
    refine OpsOk.consI rfl rfl rfl (.one rfl) rfl (fun hw3 => (GOk.fr (fr' := [(11, (.v (.bool (decide (a0 < 55296)))))]) ⟨DLe.of_eq (cT hw3).symm, trivial⟩ (VOk.g (VOk.mv (d := (.v (.bool (decide (a0 < 55296))))) rfl rfl)))) ?_
    refine OpsOk.consI rfl rfl rfl (.two rfl) rfl (fun hw4 => (VOk.g (VOk.mv (d := (.v (.int .i64 a0))) rfl rfl))) ?_
    refine OpsOk.consI rfl rfl rfl (.two rfl) rfl (fun hw4 => (GOk.fr (fr' := [(13, (.v (.int .i64 a0)))]) ⟨DLe.of_eq (cT hw4).symm, trivial⟩ (VOk.g (VOk.arith (op := .gtr) (k := .i64) (a := a0) (b := 57343) rfl rfl rfl rfl)))) ?_
    refine OpsOk.consI rfl rfl rfl (.one rfl) rfl (fun hw3 => (VOk.g (VOk.to (VOk.pickI (b := (decide (a0 < 55296))) (p := true) (q := (decide (a0 > 57343))) rfl (cT hw3) (fun hp5 => rfl) (fun hp5 => (cT (and_i hw3 (f_beq hp5))))) (pickOr (decide (a0 < 55296)) (decide (a0 > 57343)))))) ?_
    refine OpsOk.cons rfl (.v (VOk.to (VOk.pickI (b := ((decide (a0 ≥ 0)) && (decide (a0 ≤ 1114111)))) (p := ((decide (a0 < 55296)) || (decide (a0 > 57343)))) (q := false) rfl rfl (fun hp6 => (cT (t_beq hp6))) (fun hp6 => rfl)) (pickAnd ((decide (a0 ≥ 0)) && (decide (a0 ≤ 1114111))) ((decide (a0 < 55296)) || (decide (a0 > 57343))))) rfl) ?_
    refine OpsOk.cons rfl (.v (VOk.asg (d := (.v (.bool (((decide (a0 ≥ 0)) && (decide (a0 ≤ 1114111))) && ((decide (a0 < 55296)) || (decide (a0 > 57343))))))) rfl rfl) rfl) ?_
    exact .done (.mk ⟨.same _, trivial⟩ trivial)
  refine Ok.le (σ' := ⟨[(2, (.v (.bool (((decide (a0 ≥ 0)) && (decide (a0 ≤ 1114111))) && ((decide (a0 < 55296)) || (decide (a0 > 57343)))))))], []⟩) (.mk ⟨.same _, trivial⟩ trivial) ?_
  refine Ok.ret ?_
  obtain rfl := Option.some.inj H
  exact ⟨.inl rfl, ⟨_, (.cons (.tmp rfl) .nil), rfl⟩, trivial⟩

/-! watchbill/watchbillref01.Put: function 50 -/
def watchbillref01_Put (a0 : Int) : Option Str := ((watchbillref01_Sign a0).bind fun (t1 : Bool) => (if (!t1) = true then some ([] : Str) else (if (decide (a0 < 128)) = true then some (strOfBytes ([(IntKind.u8.wrap a0)] : List Int)) else (if (decide (a0 < 2048)) = true then some (strOfBytes ([(IntKind.u8.wrap (IntKind.i64.wrap (192 + (IntKind.i64.wrap ((a0).tdiv 64))))), (IntKind.u8.wrap (IntKind.i64.wrap (128 + ((a0).tmod 64))))] : List Int)) else (if (decide (a0 < 65536)) = true then some (strOfBytes ([(IntKind.u8.wrap (IntKind.i64.wrap (224 + (IntKind.i64.wrap ((a0).tdiv 4096))))), (IntKind.u8.wrap (IntKind.i64.wrap (128 + (((IntKind.i64.wrap ((a0).tdiv 64))).tmod 64)))), (IntKind.u8.wrap (IntKind.i64.wrap (128 + ((a0).tmod 64))))] : List Int)) else some (strOfBytes ([(IntKind.u8.wrap (IntKind.i64.wrap (240 + (IntKind.i64.wrap ((a0).tdiv 262144))))), (IntKind.u8.wrap (IntKind.i64.wrap (128 + (((IntKind.i64.wrap ((a0).tdiv 4096))).tmod 64)))), (IntKind.u8.wrap (IntKind.i64.wrap (128 + (((IntKind.i64.wrap ((a0).tdiv 64))).tmod 64)))), (IntKind.u8.wrap (IntKind.i64.wrap (128 + ((a0).tmod 64))))] : List Int)))))))
theorem watchbillref01_Put.ok {a0 : Int} {r : Str} (H : watchbillref01_Put a0 = some r) : Vx.Fn Try.prog 50 [(.v (.int .i64 a0))] [] (S r) [] := by
  unfold watchbillref01_Put at H
  refine Vx.Fn.of_okR Try.func50 rfl (Nat.le_of_ble_eq_true rfl) ?_
  refine Ok.seq ?_
  refine Ok.region (σ' := ⟨[(0, (.v (.int .i64 a0)))], []⟩) ?_ ?_
  · refine OpsOk.cons rfl (.v (VOk.asg (d := (S ([] : Str))) rfl rfl) rfl) ?_
    exact .done (.mk ⟨.same _, trivial⟩ trivial)
  refine Ok.seq ?_
  refine Ok.seq ?_
  obtain ⟨t1, h2, H⟩ := bindE H
  refine Ok.region (σ' := ⟨[(0, (.v (.int .i64 a0))), (5, (.v (.bool (!t1))))], []⟩) ?_ ?_
  · refine OpsOk.cons rfl (.v (VOk.mv (d := (.v (.int .i64 a0))) rfl rfl) rfl) ?_
    refine OpsOk.cons rfl (.g (GOk.call rfl rfl cl49 rfl (watchbillref01_Sign.ok h2) rfl) rfl) ?_
    refine OpsOk.cons rfl (.v (VOk.not (b := t1) rfl rfl) rfl) ?_
    exact .done (.mk ⟨.same _, .same _, trivial⟩ trivial)
  refine Ok.test (b := (!t1)) rfl (fun hb6 => ?_) (fun hb6 => ?_)
  · replace H := ifT H hb6
    refine Ok.seq ?_
    refine Ok.region (σ' := ⟨[(2, (S ([] : Str)))], []⟩) ?_ ?_
    · refine OpsOk.cons rfl (.v (VOk.asg (d := (S ([] : Str))) rfl rfl) rfl) ?_
      exact .done (.mk ⟨.same _, trivial⟩ trivial)
    refine Ok.le (σ' := ⟨[(2, (S ([] : Str)))], []⟩) (.mk ⟨.same _, trivial⟩ trivial) ?_
    refine Ok.ret ?_
    obtain rfl := Option.some.inj H
    exact ⟨.inl rfl, ⟨_, (.cons (.tmp rfl) .nil), rfl⟩, trivial⟩
  · replace H := ifF H hb6
    refine Ok.le (σ' := ⟨[(0, (.v (.int .i64 a0)))], []⟩) (.mk ⟨.same _, trivial⟩ trivial) ?_
    refine Ok.skip ?_
    refine Ok.seq ?_
    refine Ok.seq ?_
    refine Ok.region (σ' := ⟨[(0, (.v (.int .i64 a0))), (7, (.v (.bool (decide (a0 < 128)))))], []⟩) ?_ ?_
    · refine OpsOk.cons rfl (.v (VOk.mv (d := (.v (.int .i64 a0))) rfl rfl) rfl) ?_
      refine OpsOk.cons rfl (.v (VOk.arith (op := .lss) (k := .i64) (a := a0) (b := 128) rfl rfl rfl rfl) rfl) ?_
      exact .done (.mk ⟨.same _, .same _, trivial⟩ trivial)
    refine Ok.test (b := (decide (a0 < 128))) rfl (fun hb5 => ?_) (fun hb5 => ?_)
    · replace H := ifT H hb5
      refine Ok.seq ?_
      refine Ok.region (σ' := ⟨[(2, (S (strOfBytes ([(IntKind.u8.wrap a0)] : List Int))))], []⟩) ?_ ?_
      · refine OpsOk.cons rfl (.v (VOk.mv (d := (.v (.int .i64 a0))) rfl rfl) rfl) ?_
        refine OpsOk.cons rfl (.v (VOk.convInt (a := a0) rfl (by rw [Try.underlying3]; rfl) Try.underlying5 rfl) rfl) ?_
        refine OpsOk.cons rfl (.g (GOk.to (d' := (L 1 (eI .u8) ([(IntKind.u8.wrap a0)] : List Int))) (GOk.lit rfl Try.underlying84 sz5 zs5 rfl rfl rfl rfl) rfl) rfl) ?_
        refine OpsOk.cons rfl (.v (VOk.bytesStr (xs := ([(IntKind.u8.wrap a0)] : List Int)) rfl Try.underlying84 Try.underlying5 Try.underlying9 rfl) rfl) ?_
        refine OpsOk.cons rfl (.v (VOk.asg (d := (S (strOfBytes ([(IntKind.u8.wrap a0)] : List Int)))) rfl rfl) rfl) ?_
        exact .done (.mk ⟨.same _, trivial⟩ trivial)
      refine Ok.le (σ' := ⟨[(2, (S (strOfBytes ([(IntKind.u8.wrap a0)] : List Int))))], []⟩) (.mk ⟨.same _, trivial⟩ trivial) ?_
      refine Ok.ret ?_
      obtain rfl := Option.some.inj H
      exact ⟨.inl rfl, ⟨_, (.cons (.tmp rfl) .nil), rfl⟩, trivial⟩
    · replace H := ifF H hb5
      refine Ok.le (σ' := ⟨[(0, (.v (.int .i64 a0)))], []⟩) (.mk ⟨.same _, trivial⟩ trivial) ?_
      refine Ok.skip ?_
      refine Ok.seq ?_
      refine Ok.seq ?_
      refine Ok.region (σ' := ⟨[(0, (.v (.int .i64 a0))), (13, (.v (.bool (decide (a0 < 2048)))))], []⟩) ?_ ?_
      · refine OpsOk.cons rfl (.v (VOk.mv (d := (.v (.int .i64 a0))) rfl rfl) rfl) ?_
        refine OpsOk.cons rfl (.v (VOk.arith (op := .lss) (k := .i64) (a := a0) (b := 2048) rfl rfl rfl rfl) rfl) ?_
        exact .done (.mk ⟨.same _, .same _, trivial⟩ trivial)
      refine Ok.test (b := (decide (a0 < 2048))) rfl (fun hb4 => ?_) (fun hb4 => ?_)
      · replace H := ifT H hb4
        refine Ok.seq ?_
        refine Ok.region (σ' := ⟨[(2, (S (strOfBytes ([(IntKind.u8.wrap (IntKind.i64.wrap (192 + (IntKind.i64.wrap ((a0).tdiv 64))))), (IntKind.u8.wrap (IntKind.i64.wrap (128 + ((a0).tmod 64))))] : List Int))))], []⟩) ?_ ?_
        · refine OpsOk.cons rfl (.v (VOk.mv (d := (.v (.int .i64 a0))) rfl rfl) rfl) ?_
          refine OpsOk.cons rfl (.v (VOk.quo (a := a0) (b := 64) rfl rfl rfl (by decide)) rfl) ?_
          refine OpsOk.cons rfl (.v (VOk.arith (op := .add) (k := .i64) (a := 192) (b := (IntKind.i64.wrap ((a0).tdiv 64))) rfl rfl rfl rfl) rfl) ?_
          refine OpsOk.cons rfl (.v (VOk.convInt (a := (IntKind.i64.wrap (192 + (IntKind.i64.wrap ((a0).tdiv 64))))) rfl (by rw [Try.underlying3]; rfl) Try.underlying5 rfl) rfl) ?_
          refine OpsOk.cons rfl (.v (VOk.mv (d := (.v (.int .i64 a0))) rfl rfl) rfl) ?_
          refine OpsOk.cons rfl (.v (VOk.rem (a := a0) (b := 64) rfl rfl rfl (by decide)) rfl) ?_
          refine OpsOk.cons rfl (.v (VOk.arith (op := .add) (k := .i64) (a := 128) (b := ((a0).tmod 64)) rfl rfl rfl rfl) rfl) ?_
          refine OpsOk.cons rfl (.v (VOk.convInt (a := (IntKind.i64.wrap (128 + ((a0).tmod 64)))) rfl (by rw [Try.underlying3]; rfl) Try.underlying5 rfl) rfl) ?_
          refine OpsOk.cons rfl (.g (GOk.to (d' := (L 1 (eI .u8) ([(IntKind.u8.wrap (IntKind.i64.wrap (192 + (IntKind.i64.wrap ((a0).tdiv 64))))), (IntKind.u8.wrap (IntKind.i64.wrap (128 + ((a0).tmod 64))))] : List Int))) (GOk.lit rfl Try.underlying84 sz5 zs5 rfl rfl rfl rfl) rfl) rfl) ?_
          refine OpsOk.cons rfl (.v (VOk.bytesStr (xs := ([(IntKind.u8.wrap (IntKind.i64.wrap (192 + (IntKind.i64.wrap ((a0).tdiv 64))))), (IntKind.u8.wrap (IntKind.i64.wrap (128 + ((a0).tmod 64))))] : List Int)) rfl Try.underlying84 Try.underlying5 Try.underlying9 rfl) rfl) ?_
          refine OpsOk.cons rfl (.v (VOk.asg (d := (S (strOfBytes ([(IntKind.u8.wrap (IntKind.i64.wrap (192 + (IntKind.i64.wrap ((a0).tdiv 64))))), (IntKind.u8.wrap (IntKind.i64.wrap (128 + ((a0).tmod 64))))] : List Int)))) rfl rfl) rfl) ?_
          exact .done (.mk ⟨.same _, trivial⟩ trivial)
        refine Ok.le (σ' := ⟨[(2, (S (strOfBytes ([(IntKind.u8.wrap (IntKind.i64.wrap (192 + (IntKind.i64.wrap ((a0).tdiv 64))))), (IntKind.u8.wrap (IntKind.i64.wrap (128 + ((a0).tmod 64))))] : List Int))))], []⟩) (.mk ⟨.same _, trivial⟩ trivial) ?_
        refine Ok.ret ?_
        obtain rfl := Option.some.inj H
        exact ⟨.inl rfl, ⟨_, (.cons (.tmp rfl) .nil), rfl⟩, trivial⟩
      · replace H := ifF H hb4
        refine Ok.le (σ' := ⟨[(0, (.v (.int .i64 a0)))], []⟩) (.mk ⟨.same _, trivial⟩ trivial) ?_
        refine Ok.skip ?_
        refine Ok.seq ?_
        refine Ok.seq ?_
        refine Ok.region (σ' := ⟨[(0, (.v (.int .i64 a0))), (25, (.v (.bool (decide (a0 < 65536)))))], []⟩) ?_ ?_
        · refine OpsOk.cons rfl (.v (VOk.mv (d := (.v (.int .i64 a0))) rfl rfl) rfl) ?_
          refine OpsOk.cons rfl (.v (VOk.arith (op := .lss) (k := .i64) (a := a0) (b := 65536) rfl rfl rfl rfl) rfl) ?_
          exact .done (.mk ⟨.same _, .same _, trivial⟩ trivial)
        refine Ok.test (b := (decide (a0 < 65536))) rfl (fun hb3 => ?_) (fun hb3 => ?_)
        · replace H := ifT H hb3
          refine Ok.seq ?_
          refine Ok.region (σ' := ⟨[(2, (S (strOfBytes ([(IntKind.u8.wrap (IntKind.i64.wrap (224 + (IntKind.i64.wrap ((a0).tdiv 4096))))), (IntKind.u8.wrap (IntKind.i64.wrap (128 + (((IntKind.i64.wrap ((a0).tdiv 64))).tmod 64)))), (IntKind.u8.wrap (IntKind.i64.wrap (128 + ((a0).tmod 64))))] : List Int))))], []⟩) ?_ ?_
          · refine OpsOk.cons rfl (.v (VOk.mv (d := (.v (.int .i64 a0))) rfl rfl) rfl) ?_
            refine OpsOk.cons rfl (.v (VOk.quo (a := a0) (b := 4096) rfl rfl rfl (by decide)) rfl) ?_
            refine OpsOk.cons rfl (.v (VOk.arith (op := .add) (k := .i64) (a := 224) (b := (IntKind.i64.wrap ((a0).tdiv 4096))) rfl rfl rfl rfl) rfl) ?_
            refine OpsOk.cons rfl (.v (VOk.convInt (a := (IntKind.i64.wrap (224 + (IntKind.i64.wrap ((a0).tdiv 4096))))) rfl (by rw [Try.underlying3]; rfl) Try.underlying5 rfl) rfl) ?_
            refine OpsOk.cons rfl (.v (VOk.mv (d := (.v (.int .i64 a0))) rfl rfl) rfl) ?_
            refine OpsOk.cons rfl (.v (VOk.quo (a := a0) (b := 64) rfl rfl rfl (by decide)) rfl) ?_
            refine OpsOk.cons rfl (.v (VOk.rem (a := (IntKind.i64.wrap ((a0).tdiv 64))) (b := 64) rfl rfl rfl (by decide)) rfl) ?_
            refine OpsOk.cons rfl (.v (VOk.arith (op := .add) (k := .i64) (a := 128) (b := (((IntKind.i64.wrap ((a0).tdiv 64))).tmod 64)) rfl rfl rfl rfl) rfl) ?_
            refine OpsOk.cons rfl (.v (VOk.convInt (a := (IntKind.i64.wrap (128 + (((IntKind.i64.wrap ((a0).tdiv 64))).tmod 64)))) rfl (by rw [Try.underlying3]; rfl) Try.underlying5 rfl) rfl) ?_
            refine OpsOk.cons rfl (.v (VOk.mv (d := (.v (.int .i64 a0))) rfl rfl) rfl) ?_
            refine OpsOk.cons rfl (.v (VOk.rem (a := a0) (b := 64) rfl rfl rfl (by decide)) rfl) ?_
            refine OpsOk.cons rfl (.v (VOk.arith (op := .add) (k := .i64) (a := 128) (b := ((a0).tmod 64)) rfl rfl rfl rfl) rfl) ?_
            refine OpsOk.cons rfl (.v (VOk.convInt (a := (IntKind.i64.wrap (128 + ((a0).tmod 64)))) rfl (by rw [Try.underlying3]; rfl) Try.underlying5 rfl) rfl) ?_
            refine OpsOk.cons rfl (.g (GOk.to (d' := (L 1 (eI .u8) ([(IntKind.u8.wrap (IntKind.i64.wrap (224 + (IntKind.i64.wrap ((a0).tdiv 4096))))), (IntKind.u8.wrap (IntKind.i64.wrap (128 + (((IntKind.i64.wrap ((a0).tdiv 64))).tmod 64)))), (IntKind.u8.wrap (IntKind.i64.wrap (128 + ((a0).tmod 64))))] : List Int))) (GOk.lit rfl Try.underlying84 sz5 zs5 rfl rfl rfl rfl) rfl) rfl) ?_
            refine OpsOk.cons rfl (.v (VOk.bytesStr (xs := ([(IntKind.u8.wrap (IntKind.i64.wrap (224 + (IntKind.i64.wrap ((a0).tdiv 4096))))), (IntKind.u8.wrap (IntKind.i64.wrap (128 + (((IntKind.i64.wrap ((a0).tdiv 64))).tmod 64)))), (IntKind.u8.wrap (IntKind.i64.wrap (128 + ((a0).tmod 64))))] : List Int)) rfl Try.underlying84 Try.underlying5 Try.underlying9 rfl) rfl) ?_
            refine OpsOk.cons rfl (.v (VOk.asg (d := (S (strOfBytes ([(IntKind.u8.wrap (IntKind.i64.wrap (224 + (IntKind.i64.wrap ((a0).tdiv 4096))))), (IntKind.u8.wrap (IntKind.i64.wrap (128 + (((IntKind.i64.wrap ((a0).tdiv 64))).tmod 64)))), (IntKind.u8.wrap (IntKind.i64.wrap (128 + ((a0).tmod 64))))] : List Int)))) rfl rfl) rfl) ?_
            exact .done (.mk ⟨.same _, trivial⟩ trivial)
          refine Ok.le (σ' := ⟨[(2, (S (strOfBytes ([(IntKind.u8.wrap (IntKind.i64.wrap (224 + (IntKind.i64.wrap ((a0).tdiv 4096))))), (IntKind.u8.wrap (IntKind.i64.wrap (128 + (((IntKind.i64.wrap ((a0).tdiv 64))).tmod 64)))), (IntKind.u8.wrap (IntKind.i64.wrap (128 + ((a0).tmod 64))))] : List Int))))], []⟩) (.mk ⟨.same _, trivial⟩ trivial) ?_
          refine Ok.ret ?_
          obtain rfl := Option.some.inj H
          exact ⟨.inl rfl, ⟨_, (.cons (.tmp rfl) .nil), rfl⟩, trivial⟩
        · replace H := ifF H hb3
          refine Ok.le (σ' := ⟨[(0, (.v (.int .i64 a0)))], []⟩) (.mk ⟨.same _, trivial⟩ trivial) ?_
          refine Ok.skip ?_
          refine Ok.seq ?_
          refine Ok.region (σ' := ⟨[(2, (S (strOfBytes ([(IntKind.u8.wrap (IntKind.i64.wrap (240 + (IntKind.i64.wrap ((a0).tdiv 262144))))), (IntKind.u8.wrap (IntKind.i64.wrap (128 + (((IntKind.i64.wrap ((a0).tdiv 4096))).tmod 64)))), (IntKind.u8.wrap (IntKind.i64.wrap (128 + (((IntKind.i64.wrap ((a0).tdiv 64))).tmod 64)))), (IntKind.u8.wrap (IntKind.i64.wrap (128 + ((a0).tmod 64))))] : List Int))))], []⟩) ?_ ?_
          · refine OpsOk.cons rfl (.v (VOk.mv (d := (.v (.int .i64 a0))) rfl rfl) rfl) ?_
            refine OpsOk.cons rfl (.v (VOk.quo (a := a0) (b := 262144) rfl rfl rfl (by decide)) rfl) ?_
            refine OpsOk.cons rfl (.v (VOk.arith (op := .add) (k := .i64) (a := 240) (b := (IntKind.i64.wrap ((a0).tdiv 262144))) rfl rfl rfl rfl) rfl) ?_
            refine OpsOk.cons rfl (.v (VOk.convInt (a := (IntKind.i64.wrap (240 + (IntKind.i64.wrap ((a0).tdiv 262144))))) rfl (by rw [Try.underlying3]; rfl) Try.underlying5 rfl) rfl) ?_
            refine OpsOk.cons rfl (.v (VOk.mv (d := (.v (.int .i64 a0))) rfl rfl) rfl) ?_
            refine OpsOk.cons rfl (.v (VOk.quo (a := a0) (b := 4096) rfl rfl rfl (by decide)) rfl) ?_
            refine OpsOk.cons rfl (.v (VOk.rem (a := (IntKind.i64.wrap ((a0).tdiv 4096))) (b := 64) rfl rfl rfl (by decide)) rfl) ?_
            refine OpsOk.cons rfl (.v (VOk.arith (op := .add) (k := .i64) (a := 128) (b := (((IntKind.i64.wrap ((a0).tdiv 4096))).tmod 64)) rfl rfl rfl rfl) rfl) ?_
            refine OpsOk.cons rfl (.v (VOk.convInt (a := (IntKind.i64.wrap (128 + (((IntKind.i64.wrap ((a0).tdiv 4096))).tmod 64)))) rfl (by rw [Try.underlying3]; rfl) Try.underlying5 rfl) rfl) ?_
            refine OpsOk.cons rfl (.v (VOk.mv (d := (.v (.int .i64 a0))) rfl rfl) rfl) ?_
            refine OpsOk.cons rfl (.v (VOk.quo (a := a0) (b := 64) rfl rfl rfl (by decide)) rfl) ?_
            refine OpsOk.cons rfl (.v (VOk.rem (a := (IntKind.i64.wrap ((a0).tdiv 64))) (b := 64) rfl rfl rfl (by decide)) rfl) ?_
            refine OpsOk.cons rfl (.v (VOk.arith (op := .add) (k := .i64) (a := 128) (b := (((IntKind.i64.wrap ((a0).tdiv 64))).tmod 64)) rfl rfl rfl rfl) rfl) ?_
            refine OpsOk.cons rfl (.v (VOk.convInt (a := (IntKind.i64.wrap (128 + (((IntKind.i64.wrap ((a0).tdiv 64))).tmod 64)))) rfl (by rw [Try.underlying3]; rfl) Try.underlying5 rfl) rfl) ?_
            refine OpsOk.cons rfl (.v (VOk.mv (d := (.v (.int .i64 a0))) rfl rfl) rfl) ?_
            refine OpsOk.cons rfl (.v (VOk.rem (a := a0) (b := 64) rfl rfl rfl (by decide)) rfl) ?_
            refine OpsOk.cons rfl (.v (VOk.arith (op := .add) (k := .i64) (a := 128) (b := ((a0).tmod 64)) rfl rfl rfl rfl) rfl) ?_
            refine OpsOk.cons rfl (.v (VOk.convInt (a := (IntKind.i64.wrap (128 + ((a0).tmod 64)))) rfl (by rw [Try.underlying3]; rfl) Try.underlying5 rfl) rfl) ?_
            refine OpsOk.cons rfl (.g (GOk.to (d' := (L 1 (eI .u8) ([(IntKind.u8.wrap (IntKind.i64.wrap (240 + (IntKind.i64.wrap ((a0).tdiv 262144))))), (IntKind.u8.wrap (IntKind.i64.wrap (128 + (((IntKind.i64.wrap ((a0).tdiv 4096))).tmod 64)))), (IntKind.u8.wrap (IntKind.i64.wrap (128 + (((IntKind.i64.wrap ((a0).tdiv 64))).tmod 64)))), (IntKind.u8.wrap (IntKind.i64.wrap (128 + ((a0).tmod 64))))] : List Int))) (GOk.lit rfl Try.underlying84 sz5 zs5 rfl rfl rfl rfl) rfl) rfl) ?_
            refine OpsOk.cons rfl (.v (VOk.bytesStr (xs := ([(IntKind.u8.wrap (IntKind.i64.wrap (240 + (IntKind.i64.wrap ((a0).tdiv 262144))))), (IntKind.u8.wrap (IntKind.i64.wrap (128 + (((IntKind.i64.wrap ((a0).tdiv 4096))).tmod 64)))), (IntKind.u8.wrap (IntKind.i64.wrap (128 + (((IntKind.i64.wrap ((a0).tdiv 64))).tmod 64)))), (IntKind.u8.wrap (IntKind.i64.wrap (128 + ((a0).tmod 64))))] : List Int)) rfl Try.underlying84 Try.underlying5 Try.underlying9 rfl) rfl) ?_
            refine OpsOk.cons rfl (.v (VOk.asg (d := (S (strOfBytes ([(IntKind.u8.wrap (IntKind.i64.wrap (240 + (IntKind.i64.wrap ((a0).tdiv 262144))))), (IntKind.u8.wrap (IntKind.i64.wrap (128 + (((IntKind.i64.wrap ((a0).tdiv 4096))).tmod 64)))), (IntKind.u8.wrap (IntKind.i64.wrap (128 + (((IntKind.i64.wrap ((a0).tdiv 64))).tmod 64)))), (IntKind.u8.wrap (IntKind.i64.wrap (128 + ((a0).tmod 64))))] : List Int)))) rfl rfl) rfl) ?_
            exact .done (.mk ⟨.same _, trivial⟩ trivial)
          refine Ok.le (σ' := ⟨[(2, (S (strOfBytes ([(IntKind.u8.wrap (IntKind.i64.wrap (240 + (IntKind.i64.wrap ((a0).tdiv 262144))))), (IntKind.u8.wrap (IntKind.i64.wrap (128 + (((IntKind.i64.wrap ((a0).tdiv 4096))).tmod 64)))), (IntKind.u8.wrap (IntKind.i64.wrap (128 + (((IntKind.i64.wrap ((a0).tdiv 64))).tmod 64)))), (IntKind.u8.wrap (IntKind.i64.wrap (128 + ((a0).tmod 64))))] : List Int))))], []⟩) (.mk ⟨.same _, trivial⟩ trivial) ?_
          refine Ok.ret ?_
          obtain rfl := Option.some.inj H
          exact ⟨.inl rfl, ⟨_, (.cons (.tmp rfl) .nil), rfl⟩, trivial⟩

/-! watchbill/watchbillref01.Rune: function 39 -/
def watchbillref01_Rune.l0 (k : Nat) (a0 : Str) (a1 : Int) : Nat → Int → Option (Int × Int)
  | 0, _ => none
  | m5 + 1, x6_3 => (if ((decide (x6_3 ≤ 4)) && (decide (x6_3 ≤ (IntKind.i64.wrap ((a0.length : Int) - a1))))) = true then (if (0 : Int) ≤ a1 ∧ a1 ≤ (IntKind.i64.wrap (a1 + x6_3)) ∧ (IntKind.i64.wrap (a1 + x6_3)) ≤ (a0.length : Int) then ((watchbillref01_value k (sl a0 a1 (IntKind.i64.wrap (a1 + x6_3)))).bind fun (t9 : Int) => ((watchbillref01_Sign t9).bind fun (t11 : Bool) => (((if (t11 == true) = true then watchbillref01_Put t9 else some default)).bind fun (t14 : Str) => (if (t11 && (t14 == (sl a0 a1 (IntKind.i64.wrap (a1 + x6_3))))) = true then some (t9, x6_3) else watchbillref01_Rune.l0 k a0 a1 m5 (IntKind.i64.wrap (x6_3 + 1)))))) else none) else some (0, 0))
def watchbillref01_Rune (k : Nat) (a0 : Str) (a1 : Int) : Option (Int × Int) := (if ((decide (a1 < 0)) || (decide (a1 ≥ (a0.length : Int)))) = true then some (0, 0) else watchbillref01_Rune.l0 k a0 a1 k 1)
theorem watchbillref01_Rune.ok {k : Nat} {a0 : Str} {a1 : Int} {r : Int × Int} (H : watchbillref01_Rune k a0 a1 = some r) : Vx.Fn Try.prog 39 [(S a0), (.v (.int .i64 a1))] [] (.tup [(.v (.int .i64 r.1)), (.v (.int .i64 r.2))]) [] := by
  unfold watchbillref01_Rune at H
  refine Vx.Fn.of_okR Try.func39 rfl (Nat.le_of_ble_eq_true rfl) ?_
  refine Ok.seq ?_
  refine Ok.region (σ' := ⟨[(0, (S a0)), (1, (.v (.int .i64 a1)))], []⟩) ?_ ?_
  · refine OpsOk.cons rfl (.v (VOk.asg (d := (.v (.int .i64 0))) rfl rfl) rfl) ?_
    refine OpsOk.cons rfl (.v (VOk.asg (d := (.v (.int .i64 0))) rfl rfl) rfl) ?_
    exact .done (.mk ⟨.same _, .same _, trivial⟩ trivial)
  refine Ok.seq ?_
  refine Ok.seq ?_
  refine Ok.region (σ' := ⟨[(0, (S a0)), (1, (.v (.int .i64 a1))), (16, (.v (.bool ((decide (a1 < 0)) || (decide (a1 ≥ (a0.length : Int)))))))], []⟩) ?_ ?_
  · refine OpsOk.cons rfl (.v (VOk.mv (d := (.v (.int .i64 a1))) rfl rfl) rfl) ?_
    refine OpsOk.cons rfl (.v (VOk.arith (op := .lss) (k := .i64) (a := a1) (b := 0) rfl rfl rfl rfl) rfl) ?_
    refine OpsOk.cons rfl (.v (VOk.mv (d := (.v (.bool (decide (a1 < 0))))) rfl rfl) rfl) ?_
    refine OpsOk.consI rfl rfl rfl (.one rfl) rfl (fun hw1 => (VOk.g (VOk.mv (d := (.v (.int .i64 a1))) rfl rfl))) ?_
    refine OpsOk.consI rfl rfl rfl (.one rfl) rfl (fun hw1 => (VOk.g (VOk.mv (d := (S a0)) rfl rfl))) ?_
    refine OpsOk.consI rfl rfl rfl (.one rfl) rfl (fun hw1 => (GOk.fr (fr' := [(13, (S a0))]) ⟨DLe.of_eq (cT hw1).symm, trivial⟩ (VOk.g (VOk.lenStr (s := a0) rfl Try.underlying9 rfl)))) ?_
    refine OpsOk.consI rfl rfl rfl (.one rfl) rfl (fun hw1 => (GOk.fr (fr' := [(12, (.v (.int .i64 a1))), (14, (.v (.int .i64 (a0.length : Int))))]) ⟨DLe.of_eq (cT hw1).symm, DLe.of_eq (cT hw1).symm, trivial⟩ (VOk.g (VOk.arith (op := .geq) (k := .i64) (a := a1) (b := (a0.length : Int)) rfl rfl rfl rfl)))) ?_
    refine OpsOk.cons rfl (.v (VOk.to (VOk.pickI (b := (decide (a1 < 0))) (p := true) (q := (decide (a1 ≥ (a0.length : Int)))) rfl rfl (fun hp2 => rfl) (fun hp2 => (cT (f_beq hp2)))) (pickOr (decide (a1 < 0)) (decide (a1 ≥ (a0.length : Int))))) rfl) ?_
    exact .done (.mk ⟨.same _, .same _, .same _, trivial⟩ trivial)
  refine Ok.test (b := ((decide (a1 < 0)) || (decide (a1 ≥ (a0.length : Int))))) rfl (fun hb19 => ?_) (fun hb19 => ?_)
  · replace H := ifT H hb19
    refine Ok.seq ?_
    refine Ok.region (σ' := ⟨[(4, (.v (.int .i64 0))), (5, (.v (.int .i64 0)))], []⟩) ?_ ?_
    · refine OpsOk.cons rfl (.v (VOk.asg (d := (.v (.int .i64 0))) rfl rfl) rfl) ?_
      refine OpsOk.cons rfl (.v (VOk.asg (d := (.v (.int .i64 0))) rfl rfl) rfl) ?_
      exact .done (.mk ⟨.same _, .same _, trivial⟩ trivial)
    refine Ok.le (σ' := ⟨[(4, (.v (.int .i64 0))), (5, (.v (.int .i64 0)))], []⟩) (.mk ⟨.same _, .same _, trivial⟩ trivial) ?_
    refine Ok.ret ?_
    obtain rfl := Option.some.inj H
    exact ⟨.inl rfl, ⟨_, (.cons (.tmp rfl) (.cons (.tmp rfl) .nil)), rfl⟩, trivial⟩
  · replace H := ifF H hb19
    refine Ok.le (σ' := ⟨[(0, (S a0)), (1, (.v (.int .i64 a1)))], []⟩) (.mk ⟨.same _, .same _, trivial⟩ trivial) ?_
    refine Ok.skip ?_
    refine Ok.seq ?_
    refine Ok.seq ?_
    refine Ok.region (σ' := ⟨[(0, (S a0)), (1, (.v (.int .i64 a1))), (6, (.v (.int .i64 1)))], []⟩) ?_ ?_
    · refine OpsOk.cons rfl (.v (VOk.asg (d := (.v (.int .i64 1))) rfl rfl) rfl) ?_
      exact .done (.mk ⟨.same _, .same _, .same _, trivial⟩ trivial)
    refine Ok.block ?_
    refine Ok.le (σ' := ⟨[(0, (S a0)), (1, (.v (.int .i64 a1))), (6, (.v (.int .i64 1)))], []⟩) (.mk ⟨.same _, .same _, .same _, trivial⟩ trivial) ?_
    refine Ok.loop (fun m5 σ => ∃ (x6_3 : Int), σ = ⟨[(0, (S a0)), (1, (.v (.int .i64 a1))), (6, (.v (.int .i64 x6_3)))], []⟩ ∧ watchbillref01_Rune.l0 k a0 a1 m5 x6_3 = some r) k ⟨1, rfl, H⟩ ?_
    rintro m5 σ ⟨x6_3, rfl, H⟩
    cases m5 with
    | zero => exact absurd H (by simp [watchbillref01_Rune.l0])
    | succ m5 =>
      unfold watchbillref01_Rune.l0 at H
      refine Ok.seq ?_
      refine Ok.seq ?_
      refine Ok.region (σ' := ⟨[(0, (S a0)), (1, (.v (.int .i64 a1))), (6, (.v (.int .i64 x6_3))), (26, (.v (.bool ((decide (x6_3 ≤ 4)) && (decide (x6_3 ≤ (IntKind.i64.wrap ((a0.length : Int) - a1))))))))], []⟩) ?_ ?_
      · refine OpsOk.cons rfl (.v (VOk.mv (d := (.v (.int .i64 x6_3))) rfl rfl) rfl) ?_
        refine OpsOk.cons rfl (.v (VOk.arith (op := .leq) (k := .i64) (a := x6_3) (b := 4) rfl rfl rfl rfl) rfl) ?_
        refine OpsOk.cons rfl (.v (VOk.mv (d := (.v (.bool (decide (x6_3 ≤ 4))))) rfl rfl) rfl) ?_
        refine OpsOk.consI rfl rfl rfl (.one rfl) rfl (fun hw6 => (VOk.g (VOk.mv (d := (.v (.int .i64 x6_3))) rfl rfl))) ?_
        refine OpsOk.consI rfl rfl rfl (.one rfl) rfl (fun hw6 => (VOk.g (VOk.mv (d := (S a0)) rfl rfl))) ?_
        refine OpsOk.consI rfl rfl rfl (.one rfl) rfl (fun hw6 => (GOk.fr (fr' := [(21, (S a0))]) ⟨DLe.of_eq (cT hw6).symm, trivial⟩ (VOk.g (VOk.lenStr (s := a0) rfl Try.underlying9 rfl)))) ?_
        refine OpsOk.consI rfl rfl rfl (.one rfl) rfl (fun hw6 => (VOk.g (VOk.mv (d := (.v (.int .i64 a1))) rfl rfl))) ?_
        refine OpsOk.consI rfl rfl rfl (.one rfl) rfl (fun hw6 => (GOk.fr (fr' := [(22, (.v (.int .i64 (a0.length : Int)))), (23, (.v (.int .i64 a1)))]) ⟨DLe.of_eq (cT hw6).symm, DLe.of_eq (cT hw6).symm, trivial⟩ (VOk.g (VOk.arith (op := .sub) (k := .i64) (a := (a0.length : Int)) (b := a1) rfl rfl rfl rfl)))) ?_
        refine OpsOk.consI rfl rfl rfl (.one rfl) rfl (fun hw6 => (GOk.fr (fr' := [(20, (.v (.int .i64 x6_3))), (24, (.v (.int .i64 (IntKind.i64.wrap ((a0.length : Int) - a1)))))]) ⟨DLe.of_eq (cT hw6).symm, DLe.of_eq (cT hw6).symm, trivial⟩ (VOk.g (VOk.arith (op := .leq) (k := .i64) (a := x6_3) (b := (IntKind.i64.wrap ((a0.length : Int) - a1))) rfl rfl rfl rfl)))) ?_
        refine OpsOk.cons rfl (.v (VOk.to (VOk.pickI (b := (decide (x6_3 ≤ 4))) (p := (decide (x6_3 ≤ (IntKind.i64.wrap ((a0.length : Int) - a1))))) (q := false) rfl rfl (fun hp7 => (cT (t_beq hp7))) (fun hp7 => rfl)) (pickAnd (decide (x6_3 ≤ 4)) (decide (x6_3 ≤ (IntKind.i64.wrap ((a0.length : Int) - a1)))))) rfl) ?_
        exact .done (.mk ⟨.same _, .same _, .same _, .same _, trivial⟩ trivial)
      refine Ok.test (b := ((decide (x6_3 ≤ 4)) && (decide (x6_3 ≤ (IntKind.i64.wrap ((a0.length : Int) - a1)))))) rfl (fun hb18 => ?_) (fun hb18 => ?_)
      · replace H := ifT H hb18
        refine Ok.le (σ' := ⟨[(0, (S a0)), (1, (.v (.int .i64 a1))), (6, (.v (.int .i64 x6_3)))], []⟩) (.mk ⟨.same _, .same _, .same _, trivial⟩ trivial) ?_
        refine Ok.skip ?_
        refine Ok.seq ?_
        refine Ok.block ?_
        refine Ok.seq ?_
        obtain ⟨c8, H⟩ := assertE H
        refine Ok.region (σ' := ⟨[(0, (S a0)), (1, (.v (.int .i64 a1))), (6, (.v (.int .i64 x6_3))), (7, (S (sl a0 a1 (IntKind.i64.wrap (a1 + x6_3)))))], []⟩) ?_ ?_
        · refine OpsOk.cons rfl (.v (VOk.mv (d := (S a0)) rfl rfl) rfl) ?_
          refine OpsOk.cons rfl (.v (VOk.mv (d := (.v (.int .i64 a1))) rfl rfl) rfl) ?_
          refine OpsOk.cons rfl (.v (VOk.mv (d := (.v (.int .i64 a1))) rfl rfl) rfl) ?_
          refine OpsOk.cons rfl (.v (VOk.mv (d := (.v (.int .i64 x6_3))) rfl rfl) rfl) ?_
          refine OpsOk.cons rfl (.v (VOk.arith (op := .add) (k := .i64) (a := a1) (b := x6_3) rfl rfl rfl rfl) rfl) ?_
          refine OpsOk.cons rfl (.v (VOk.sliceStr (s := a0) (l := a1) (h := (IntKind.i64.wrap (a1 + x6_3))) rfl Try.underlying9 rfl rfl rfl c8) rfl) ?_
          refine OpsOk.cons rfl (.v (VOk.asg (d := (S (sl a0 a1 (IntKind.i64.wrap (a1 + x6_3))))) rfl rfl) rfl) ?_
          exact .done (.mk ⟨.same _, .same _, .same _, .same _, trivial⟩ trivial)
        refine Ok.seq ?_
        obtain ⟨t9, h10, H⟩ := bindE H
        refine Ok.region (σ' := ⟨[(0, (S a0)), (1, (.v (.int .i64 a1))), (6, (.v (.int .i64 x6_3))), (7, (S (sl a0 a1 (IntKind.i64.wrap (a1 + x6_3))))), (8, (.v (.int .i64 t9)))], []⟩) ?_ ?_
        · refine OpsOk.cons rfl (.v (VOk.mv (d := (S (sl a0 a1 (IntKind.i64.wrap (a1 + x6_3))))) rfl rfl) rfl) ?_
          refine OpsOk.cons rfl (.g (GOk.call rfl rfl cl48 rfl (watchbillref01_value.ok h10) rfl) rfl) ?_
          refine OpsOk.cons rfl (.v (VOk.asg (d := (.v (.int .i64 t9))) rfl rfl) rfl) ?_
          exact .done (.mk ⟨.same _, .same _, .same _, .same _, .same _, trivial⟩ trivial)
        refine Ok.seq ?_
        obtain ⟨t11, h12, H⟩ := bindE H
        obtain ⟨t14, h15, H⟩ := bindE H
        refine Ok.region (σ' := ⟨[(0, (S a0)), (1, (.v (.int .i64 a1))), (6, (.v (.int .i64 x6_3))), (8, (.v (.int .i64 t9))), (44, (.v (.bool (t11 && (t14 == (sl a0 a1 (IntKind.i64.wrap (a1 + x6_3))))))))], []⟩) ?_ ?_
        · refine OpsOk.cons rfl (.v (VOk.mv (d := (.v (.int .i64 t9))) rfl rfl) rfl) ?_
          refine OpsOk.cons rfl (.g (GOk.call rfl rfl cl49 rfl (watchbillref01_Sign.ok h12) rfl) rfl) ?_
          refine OpsOk.cons rfl (.v (VOk.mv (d := (.v (.bool t11))) rfl rfl) rfl) ?_
          refine OpsOk.consI rfl rfl rfl (.one rfl) rfl (fun hw13 => (VOk.g (VOk.mv (d := (.v (.int .i64 t9))) rfl rfl))) ?_
          refine OpsOk.consI rfl rfl rfl (.one rfl) rfl (fun hw13 => (GOk.fr (fr' := [(40, (.v (.int .i64 t9)))]) ⟨DLe.of_eq (cT hw13).symm, trivial⟩ (GOk.call rfl rfl cl50 rfl (watchbillref01_Put.ok (ifT h15 hw13)) rfl))) ?_
          refine OpsOk.consI rfl rfl rfl (.one rfl) rfl (fun hw13 => (VOk.g (VOk.mv (d := (S (sl a0 a1 (IntKind.i64.wrap (a1 + x6_3))))) rfl rfl))) ?_
          refine OpsOk.consI rfl rfl rfl (.one rfl) rfl (fun hw13 => (GOk.fr (fr' := [(41, (S t14)), (42, (S (sl a0 a1 (IntKind.i64.wrap (a1 + x6_3)))))]) ⟨DLe.of_eq (cT hw13).symm, DLe.of_eq (cT hw13).symm, trivial⟩ (VOk.g (VOk.strOp (op := .eql) (a := t14) (b := (sl a0 a1 (IntKind.i64.wrap (a1 + x6_3)))) rfl rfl rfl rfl)))) ?_
          refine OpsOk.cons rfl (.v (VOk.to (VOk.pickI (b := t11) (p := (t14 == (sl a0 a1 (IntKind.i64.wrap (a1 + x6_3))))) (q := false) rfl rfl (fun hp16 => (cT (t_beq hp16))) (fun hp16 => rfl)) (pickAnd t11 (t14 == (sl a0 a1 (IntKind.i64.wrap (a1 + x6_3)))))) rfl) ?_
          exact .done (.mk ⟨.same _, .same _, .same _, .same _, .same _, trivial⟩ trivial)
        refine Ok.test (b := (t11 && (t14 == (sl a0 a1 (IntKind.i64.wrap (a1 + x6_3)))))) rfl (fun hb17 => ?_) (fun hb17 => ?_)
        · replace H := ifT H hb17
          refine Ok.seq ?_
          refine Ok.region (σ' := ⟨[(4, (.v (.int .i64 t9))), (5, (.v (.int .i64 x6_3)))], []⟩) ?_ ?_
          · refine OpsOk.cons rfl (.v (VOk.mv (d := (.v (.int .i64 t9))) rfl rfl) rfl) ?_
            refine OpsOk.cons rfl (.v (VOk.mv (d := (.v (.int .i64 x6_3))) rfl rfl) rfl) ?_
            refine OpsOk.cons rfl (.v (VOk.asg (d := (.v (.int .i64 t9))) rfl rfl) rfl) ?_
            refine OpsOk.cons rfl (.v (VOk.asg (d := (.v (.int .i64 x6_3))) rfl rfl) rfl) ?_
            exact .done (.mk ⟨.same _, .same _, trivial⟩ trivial)
          refine Ok.le (σ' := ⟨[(4, (.v (.int .i64 t9))), (5, (.v (.int .i64 x6_3)))], []⟩) (.mk ⟨.same _, .same _, trivial⟩ trivial) ?_
          refine Ok.ret ?_
          obtain rfl := Option.some.inj H
          exact ⟨.inl rfl, ⟨_, (.cons (.tmp rfl) (.cons (.tmp rfl) .nil)), rfl⟩, trivial⟩
        · replace H := ifF H hb17
          refine Ok.le (σ' := ⟨[(0, (S a0)), (1, (.v (.int .i64 a1))), (6, (.v (.int .i64 x6_3)))], []⟩) (.mk ⟨.same _, .same _, .same _, trivial⟩ trivial) ?_
          refine Ok.skip ?_
          refine Ok.region (σ' := ⟨[(0, (S a0)), (1, (.v (.int .i64 a1))), (6, (.v (.int .i64 (IntKind.i64.wrap (x6_3 + 1)))))], []⟩) ?_ ?_
          · refine OpsOk.cons rfl (.v (VOk.mv (d := (.v (.int .i64 x6_3))) rfl rfl) rfl) ?_
            refine OpsOk.cons rfl (.v (VOk.arith (op := .add) (k := .i64) (a := x6_3) (b := 1) rfl rfl rfl rfl) rfl) ?_
            refine OpsOk.cons rfl (.v (VOk.asg (d := (.v (.int .i64 (IntKind.i64.wrap (x6_3 + 1))))) rfl rfl) rfl) ?_
            exact .done (.mk ⟨.same _, .same _, .same _, trivial⟩ trivial)
          exact ⟨m5, Nat.lt_succ_self m5, (IntKind.i64.wrap (x6_3 + 1)), rfl, H⟩
      · replace H := ifF H hb18
        refine Ok.le (σ' := ⟨[], []⟩) (.mk trivial trivial) ?_
        refine Ok.exit ?_
        refine Ok.seq ?_
        refine Ok.region (σ' := ⟨[(4, (.v (.int .i64 0))), (5, (.v (.int .i64 0)))], []⟩) ?_ ?_
        · refine OpsOk.cons rfl (.v (VOk.asg (d := (.v (.int .i64 0))) rfl rfl) rfl) ?_
          refine OpsOk.cons rfl (.v (VOk.asg (d := (.v (.int .i64 0))) rfl rfl) rfl) ?_
          exact .done (.mk ⟨.same _, .same _, trivial⟩ trivial)
        refine Ok.le (σ' := ⟨[(4, (.v (.int .i64 0))), (5, (.v (.int .i64 0)))], []⟩) (.mk ⟨.same _, .same _, trivial⟩ trivial) ?_
        refine Ok.ret ?_
        obtain rfl := Option.some.inj H
        exact ⟨.inl rfl, ⟨_, (.cons (.tmp rfl) (.cons (.tmp rfl) .nil)), rfl⟩, trivial⟩

/-! watchbill/watchbillref01.in: function 51 -/
def watchbillref01_in.l0 (k : Nat) (a0 : Int) (a1 : List Int) : Nat → Int → Option Bool
  | 0, _ => none
  | m3 + 1, x5_1 => (if (decide ((IntKind.i64.wrap (x5_1 + 1)) < (a1.length : Int))) = true then (if (0 : Int) ≤ x5_1 ∧ x5_1 < (a1.length : Int) then (if (((decide (a0 ≥ (rd a1 x5_1))) == true) = true → (0 : Int) ≤ (IntKind.i64.wrap (x5_1 + 1)) ∧ (IntKind.i64.wrap (x5_1 + 1)) < (a1.length : Int)) then (if ((decide (a0 ≥ (rd a1 x5_1))) && (decide (a0 ≤ (rd a1 (IntKind.i64.wrap (x5_1 + 1)))))) = true then some true else watchbillref01_in.l0 k a0 a1 m3 (IntKind.i64.wrap (x5_1 + 2))) else none) else none) else some false)
def watchbillref01_in (k : Nat) (a0 : Int) (a1 : List Int) : Option Bool := watchbillref01_in.l0 k a0 a1 k 0
theorem watchbillref01_in.ok {k : Nat} {a0 : Int} {a1 : List Int} {r : Bool} (H : watchbillref01_in k a0 a1 = some r) : Vx.Fn Try.prog 51 [(.v (.int .i64 a0)), (L 1 (eI .i64) a1)] [] (.v (.bool r)) [] := by
  unfold watchbillref01_in at H
  refine Vx.Fn.of_okR Try.func51 rfl (Nat.le_of_ble_eq_true rfl) ?_
  refine Ok.seq ?_
  refine Ok.region (σ' := ⟨[(0, (.v (.int .i64 a0))), (1, (L 1 (eI .i64) a1))], []⟩) ?_ ?_
  · refine OpsOk.cons rfl (.v (VOk.asg (d := (.v (.bool false))) rfl rfl) rfl) ?_
    exact .done (.mk ⟨.same _, .same _, trivial⟩ trivial)
  refine Ok.seq ?_
  refine Ok.seq ?_
  refine Ok.region (σ' := ⟨[(0, (.v (.int .i64 a0))), (1, (L 1 (eI .i64) a1)), (5, (.v (.int .i64 0)))], []⟩) ?_ ?_
  · refine OpsOk.cons rfl (.v (VOk.asg (d := (.v (.int .i64 0))) rfl rfl) rfl) ?_
    exact .done (.mk ⟨.same _, .same _, .same _, trivial⟩ trivial)
  refine Ok.block ?_
  refine Ok.le (σ' := ⟨[(0, (.v (.int .i64 a0))), (1, (L 1 (eI .i64) a1)), (5, (.v (.int .i64 0)))], []⟩) (.mk ⟨.same _, .same _, .same _, trivial⟩ trivial) ?_
  refine Ok.loop (fun m3 σ => ∃ (x5_1 : Int), σ = ⟨[(0, (.v (.int .i64 a0))), (1, (L 1 (eI .i64) a1)), (5, (.v (.int .i64 x5_1)))], []⟩ ∧ watchbillref01_in.l0 k a0 a1 m3 x5_1 = some r) k ⟨0, rfl, H⟩ ?_
  rintro m3 σ ⟨x5_1, rfl, H⟩
  cases m3 with
  | zero => exact absurd H (by simp [watchbillref01_in.l0])
  | succ m3 =>
    unfold watchbillref01_in.l0 at H
    refine Ok.seq ?_
    refine Ok.seq ?_
    refine Ok.region (σ' := ⟨[(0, (.v (.int .i64 a0))), (1, (L 1 (eI .i64) a1)), (5, (.v (.int .i64 x5_1))), (10, (.v (.bool (decide ((IntKind.i64.wrap (x5_1 + 1)) < (a1.length : Int))))))], []⟩) ?_ ?_
    · refine OpsOk.cons rfl (.v (VOk.mv (d := (.v (.int .i64 x5_1))) rfl rfl) rfl) ?_
      refine OpsOk.cons rfl (.v (VOk.arith (op := .add) (k := .i64) (a := x5_1) (b := 1) rfl rfl rfl rfl) rfl) ?_
      refine OpsOk.cons rfl (.v (VOk.mv (d := (L 1 (eI .i64) a1)) rfl rfl) rfl) ?_
      refine OpsOk.cons rfl (.v (VOk.lenL (e := (eI .i64)) (xs := a1) rfl Try.underlying90 rfl) rfl) ?_
      refine OpsOk.cons rfl (.v (VOk.arith (op := .lss) (k := .i64) (a := (IntKind.i64.wrap (x5_1 + 1))) (b := (a1.length : Int)) rfl rfl rfl rfl) rfl) ?_
      exact .done (.mk ⟨.same _, .same _, .same _, .same _, trivial⟩ trivial)
    refine Ok.test (b := (decide ((IntKind.i64.wrap (x5_1 + 1)) < (a1.length : Int)))) rfl (fun hb9 => ?_) (fun hb9 => ?_)
    · replace H := ifT H hb9
      refine Ok.le (σ' := ⟨[(0, (.v (.int .i64 a0))), (1, (L 1 (eI .i64) a1)), (5, (.v (.int .i64 x5_1)))], []⟩) (.mk ⟨.same _, .same _, .same _, trivial⟩ trivial) ?_
      refine Ok.skip ?_
      refine Ok.seq ?_
      refine Ok.block ?_
      refine Ok.seq ?_
      obtain ⟨c4, H⟩ := assertE H
      obtain ⟨c6, H⟩ := assertE H
      refine Ok.region (σ' := ⟨[(0, (.v (.int .i64 a0))), (1, (L 1 (eI .i64) a1)), (5, (.v (.int .i64 x5_1))), (27, (.v (.bool ((decide (a0 ≥ (rd a1 x5_1))) && (decide (a0 ≤ (rd a1 (IntKind.i64.wrap (x5_1 + 1)))))))))], []⟩) ?_ ?_
      · refine OpsOk.cons rfl (.v (VOk.mv (d := (.v (.int .i64 a0))) rfl rfl) rfl) ?_
        refine OpsOk.cons rfl (.v (VOk.mv (d := (L 1 (eI .i64) a1)) rfl rfl) rfl) ?_
        refine OpsOk.cons rfl (.v (VOk.mv (d := (.v (.int .i64 x5_1))) rfl rfl) rfl) ?_
        refine OpsOk.cons rfl (.v (VOk.indexL (sz := 1) (e := (eI .i64)) (xs := a1) (i := x5_1) rfl Try.underlying90 sz3 rfl rfl c4) rfl) ?_
        refine OpsOk.cons rfl (.v (VOk.loadFp (d := (.v (.int .i64 (rd a1 x5_1)))) rfl Try.underlying3 rfl rfl rfl) rfl) ?_
        refine OpsOk.cons rfl (.v (VOk.arith (op := .geq) (k := .i64) (a := a0) (b := (rd a1 x5_1)) rfl rfl rfl rfl) rfl) ?_
        refine OpsOk.cons rfl (.v (VOk.mv (d := (.v (.bool (decide (a0 ≥ (rd a1 x5_1)))))) rfl rfl) rfl) ?_
        refine OpsOk.consI rfl rfl rfl (.one rfl) rfl (fun hw5 => (VOk.g (VOk.mv (d := (.v (.int .i64 a0))) rfl rfl))) ?_
        refine OpsOk.consI rfl rfl rfl (.one rfl) rfl (fun hw5 => (VOk.g (VOk.mv (d := (L 1 (eI .i64) a1)) rfl rfl))) ?_
        refine OpsOk.consI rfl rfl rfl (.one rfl) rfl (fun hw5 => (VOk.g (VOk.mv (d := (.v (.int .i64 x5_1))) rfl rfl))) ?_
        refine OpsOk.consI rfl rfl rfl (.one rfl) rfl (fun hw5 => (GOk.fr (fr' := [(22, (.v (.int .i64 x5_1)))]) ⟨DLe.of_eq (cT hw5).symm, trivial⟩ (VOk.g (VOk.arith (op := .add) (k := .i64) (a := x5_1) (b := 1) rfl rfl rfl rfl)))) ?_
        refine OpsOk.consI rfl rfl rfl (.one rfl) rfl (fun hw5 => (GOk.fr (fr' := [(21, (L 1 (eI .i64) a1)), (23, (.v (.int .i64 (IntKind.i64.wrap (x5_1 + 1)))))]) ⟨DLe.of_eq (cT hw5).symm, DLe.of_eq (cT hw5).symm, trivial⟩ (VOk.g (VOk.indexL (sz := 1) (e := (eI .i64)) (xs := a1) (i := (IntKind.i64.wrap (x5_1 + 1))) rfl Try.underlying90 sz3 rfl rfl (c6 hw5))))) ?_
        refine OpsOk.consI rfl rfl rfl (.one rfl) rfl (fun hw5 => (GOk.fr (fr' := [(24, (.fp ((eI .i64) (rd a1 (IntKind.i64.wrap (x5_1 + 1)))) 0))]) ⟨DLe.of_eq (cT hw5).symm, trivial⟩ (VOk.g (VOk.loadFp (d := (.v (.int .i64 (rd a1 (IntKind.i64.wrap (x5_1 + 1)))))) rfl Try.underlying3 rfl rfl rfl)))) ?_
        refine OpsOk.consI rfl rfl rfl (.one rfl) rfl (fun hw5 => (GOk.fr (fr' := [(20, (.v (.int .i64 a0))), (25, (.v (.int .i64 (rd a1 (IntKind.i64.wrap (x5_1 + 1))))))]) ⟨DLe.of_eq (cT hw5).symm, DLe.of_eq (cT hw5).symm, trivial⟩ (VOk.g (VOk.arith (op := .leq) (k := .i64) (a := a0) (b := (rd a1 (IntKind.i64.wrap (x5_1 + 1)))) rfl rfl rfl rfl)))) ?_
        refine OpsOk.cons rfl (.v (VOk.to (VOk.pickI (b := (decide (a0 ≥ (rd a1 x5_1)))) (p := (decide (a0 ≤ (rd a1 (IntKind.i64.wrap (x5_1 + 1)))))) (q := false) rfl rfl (fun hp7 => (cT (t_beq hp7))) (fun hp7 => rfl)) (pickAnd (decide (a0 ≥ (rd a1 x5_1))) (decide (a0 ≤ (rd a1 (IntKind.i64.wrap (x5_1 + 1))))))) rfl) ?_
        exact .done (.mk ⟨.same _, .same _, .same _, .same _, trivial⟩ trivial)
      refine Ok.test (b := ((decide (a0 ≥ (rd a1 x5_1))) && (decide (a0 ≤ (rd a1 (IntKind.i64.wrap (x5_1 + 1))))))) rfl (fun hb8 => ?_) (fun hb8 => ?_)
      · replace H := ifT H hb8
        refine Ok.seq ?_
        refine Ok.region (σ' := ⟨[(4, (.v (.bool true)))], []⟩) ?_ ?_
        · refine OpsOk.cons rfl (.v (VOk.asg (d := (.v (.bool true))) rfl rfl) rfl) ?_
          exact .done (.mk ⟨.same _, trivial⟩ trivial)
        refine Ok.le (σ' := ⟨[(4, (.v (.bool true)))], []⟩) (.mk ⟨.same _, trivial⟩ trivial) ?_
        refine Ok.ret ?_
        obtain rfl := Option.some.inj H
        exact ⟨.inl rfl, ⟨_, (.cons (.tmp rfl) .nil), rfl⟩, trivial⟩
      · replace H := ifF H hb8
        refine Ok.le (σ' := ⟨[(0, (.v (.int .i64 a0))), (1, (L 1 (eI .i64) a1)), (5, (.v (.int .i64 x5_1)))], []⟩) (.mk ⟨.same _, .same _, .same _, trivial⟩ trivial) ?_
        refine Ok.skip ?_
        refine Ok.region (σ' := ⟨[(0, (.v (.int .i64 a0))), (1, (L 1 (eI .i64) a1)), (5, (.v (.int .i64 (IntKind.i64.wrap (x5_1 + 2)))))], []⟩) ?_ ?_
        · refine OpsOk.cons rfl (.v (VOk.mv (d := (.v (.int .i64 x5_1))) rfl rfl) rfl) ?_
          refine OpsOk.cons rfl (.v (VOk.arith (op := .add) (k := .i64) (a := x5_1) (b := 2) rfl rfl rfl rfl) rfl) ?_
          refine OpsOk.cons rfl (.v (VOk.asg (d := (.v (.int .i64 (IntKind.i64.wrap (x5_1 + 2))))) rfl rfl) rfl) ?_
          exact .done (.mk ⟨.same _, .same _, .same _, trivial⟩ trivial)
        exact ⟨m3, Nat.lt_succ_self m3, (IntKind.i64.wrap (x5_1 + 2)), rfl, H⟩
    · replace H := ifF H hb9
      refine Ok.le (σ' := ⟨[], []⟩) (.mk trivial trivial) ?_
      refine Ok.exit ?_
      refine Ok.seq ?_
      refine Ok.region (σ' := ⟨[(4, (.v (.bool false)))], []⟩) ?_ ?_
      · refine OpsOk.cons rfl (.v (VOk.asg (d := (.v (.bool false))) rfl rfl) rfl) ?_
        exact .done (.mk ⟨.same _, trivial⟩ trivial)
      refine Ok.le (σ' := ⟨[(4, (.v (.bool false)))], []⟩) (.mk ⟨.same _, trivial⟩ trivial) ?_
      refine Ok.ret ?_
      obtain rfl := Option.some.inj H
      exact ⟨.inl rfl, ⟨_, (.cons (.tmp rfl) .nil), rfl⟩, trivial⟩

/-! watchbill/watchbillref01.Start: function 40 -/
def watchbillref01_Start (k : Nat) (a0 : Int) : Option Bool := ((watchbillref01_in k a0 ([65, 90, 97, 122, 95, 95, 192, 214, 216, 246, 248, 767, 880, 893, 895, 8191, 8204, 8205, 8304, 8591, 11264, 12271, 12289, 55295, 63744, 64975, 65008, 65533, 65536, 983039] : List Int)).bind fun (t1 : Bool) => some t1)
theorem watchbillref01_Start.ok {k : Nat} {a0 : Int} {r : Bool} (H : watchbillref01_Start k a0 = some r) : Vx.Fn Try.prog 40 [(.v (.int .i64 a0))] [] (.v (.bool r)) [] := by
  unfold watchbillref01_Start at H
  refine Vx.Fn.of_okR Try.func40 rfl (Nat.le_of_ble_eq_true rfl) ?_
  refine Ok.seq ?_
  refine Ok.region (σ' := ⟨[(0, (.v (.int .i64 a0)))], []⟩) ?_ ?_
  · refine OpsOk.cons rfl (.v (VOk.asg (d := (.v (.bool false))) rfl rfl) rfl) ?_
    exact .done (.mk ⟨.same _, trivial⟩ trivial)
  refine Ok.seq ?_
  obtain ⟨t1, h2, H⟩ := bindE H
  refine Ok.region (σ' := ⟨[(2, (.v (.bool t1)))], []⟩) ?_ ?_
  · refine OpsOk.cons rfl (.v (VOk.mv (d := (.v (.int .i64 a0))) rfl rfl) rfl) ?_
    refine OpsOk.cons rfl (.g (GOk.to (d' := (L 1 (eI .i64) ([65, 90, 97, 122, 95, 95, 192, 214, 216, 246, 248, 767, 880, 893, 895, 8191, 8204, 8205, 8304, 8591, 11264, 12271, 12289, 55295, 63744, 64975, 65008, 65533, 65536, 983039] : List Int))) (GOk.lit rfl Try.underlying90 sz3 zs3 rfl rfl rfl rfl) rfl) rfl) ?_
    refine OpsOk.cons rfl (.g (GOk.call rfl rfl cl51 rfl (watchbillref01_in.ok h2) rfl) rfl) ?_
    refine OpsOk.cons rfl (.v (VOk.asg (d := (.v (.bool t1))) rfl rfl) rfl) ?_
    exact .done (.mk ⟨.same _, trivial⟩ trivial)
  refine Ok.le (σ' := ⟨[(2, (.v (.bool t1)))], []⟩) (.mk ⟨.same _, trivial⟩ trivial) ?_
  refine Ok.ret ?_
  obtain rfl := Option.some.inj H
  exact ⟨.inl rfl, ⟨_, (.cons (.tmp rfl) .nil), rfl⟩, trivial⟩

/-! watchbill/watchbillref01.Part: function 41 -/
def watchbillref01_Part (k : Nat) (a0 : Int) : Option Bool := ((watchbillref01_Start k a0).bind fun (t1 : Bool) => (((if (((t1 || (a0 == 45)) || (a0 == 46)) == false) = true then watchbillref01_in k a0 ([48, 57, 183, 183, 768, 879, 8255, 8256] : List Int) else some default)).bind fun (t8 : Bool) => some (((t1 || (a0 == 45)) || (a0 == 46)) || t8)))
theorem watchbillref01_Part.ok {k : Nat} {a0 : Int} {r : Bool} (H : watchbillref01_Part k a0 = some r) : Vx.Fn Try.prog 41 [(.v (.int .i64 a0))] [] (.v (.bool r)) [] := by
  unfold watchbillref01_Part at H
  refine Vx.Fn.of_okR Try.func41 rfl (Nat.le_of_ble_eq_true rfl) ?_
  refine Ok.seq ?_
  refine Ok.region (σ' := ⟨[(0, (.v (.int .i64 a0)))], []⟩) ?_ ?_
  · refine OpsOk.cons rfl (.v (VOk.asg (d := (.v (.bool false))) rfl rfl) rfl) ?_
    exact .done (.mk ⟨.same _, trivial⟩ trivial)
  refine Ok.seq ?_
  obtain ⟨t1, h2, H⟩ := bindE H
  obtain ⟨t8, h9, H⟩ := bindE H
  refine Ok.region (σ' := ⟨[(2, (.v (.bool (((t1 || (a0 == 45)) || (a0 == 46)) || t8))))], []⟩) ?_ ?_
  · refine OpsOk.cons rfl (.v (VOk.mv (d := (.v (.int .i64 a0))) rfl rfl) rfl) ?_
    refine OpsOk.cons rfl (.g (GOk.call rfl rfl cl40 rfl (watchbillref01_Start.ok h2) rfl) rfl) ?_
    refine OpsOk.cons rfl (.v (VOk.mv (d := (.v (.bool t1))) rfl rfl) rfl) ?_
    refine OpsOk.consI rfl rfl rfl (.one rfl) rfl (fun hw3 => (VOk.g (VOk.mv (d := (.v (.int .i64 a0))) rfl rfl))) ?_
    refine OpsOk.consI rfl rfl rfl (.one rfl) rfl (fun hw3 => (GOk.fr (fr' := [(6, (.v (.int .i64 a0)))]) ⟨DLe.of_eq (cT hw3).symm, trivial⟩ (VOk.g (VOk.arith (op := .eql) (k := .i64) (a := a0) (b := 45) rfl rfl rfl rfl)))) ?_
    refine OpsOk.cons rfl (.v (VOk.to (VOk.pickI (b := t1) (p := true) (q := (a0 == 45)) rfl rfl (fun hp4 => rfl) (fun hp4 => (cT (f_beq hp4)))) (pickOr t1 (a0 == 45))) rfl) ?_
    refine OpsOk.cons rfl (.v (VOk.mv (d := (.v (.bool (t1 || (a0 == 45))))) rfl rfl) rfl) ?_
    refine OpsOk.consI rfl rfl rfl (.one rfl) rfl (fun hw5 => (VOk.g (VOk.mv (d := (.v (.int .i64 a0))) rfl rfl))) ?_
    refine OpsOk.consI rfl rfl rfl (.one rfl) rfl (fun hw5 => (GOk.fr (fr' := [(10, (.v (.int .i64 a0)))]) ⟨DLe.of_eq (cT hw5).symm, trivial⟩ (VOk.g (VOk.arith (op := .eql) (k := .i64) (a := a0) (b := 46) rfl rfl rfl rfl)))) ?_
    refine OpsOk.cons rfl (.v (VOk.to (VOk.pickI (b := (t1 || (a0 == 45))) (p := true) (q := (a0 == 46)) rfl rfl (fun hp6 => rfl) (fun hp6 => (cT (f_beq hp6)))) (pickOr (t1 || (a0 == 45)) (a0 == 46))) rfl) ?_
    refine OpsOk.cons rfl (.v (VOk.mv (d := (.v (.bool ((t1 || (a0 == 45)) || (a0 == 46))))) rfl rfl) rfl) ?_
    refine OpsOk.consI rfl rfl rfl (.one rfl) rfl (fun hw7 => (VOk.g (VOk.mv (d := (.v (.int .i64 a0))) rfl rfl))) ?_
    refine OpsOk.consI rfl rfl rfl (.one rfl) rfl (fun hw7 => (GOk.to (d' := (L 1 (eI .i64) ([48, 57, 183, 183, 768, 879, 8255, 8256] : List Int))) (GOk.lit rfl Try.underlying90 sz3 zs3 rfl rfl rfl rfl) rfl)) ?_
    refine OpsOk.consI rfl rfl rfl (.one rfl) rfl (fun hw7 => (GOk.fr (fr' := [(14, (.v (.int .i64 a0))), (15, (L 1 (eI .i64) ([48, 57, 183, 183, 768, 879, 8255, 8256] : List Int)))]) ⟨DLe.of_eq (cT hw7).symm, DLe.of_eq (cT hw7).symm, trivial⟩ (GOk.call rfl rfl cl51 rfl (watchbillref01_in.ok (ifT h9 hw7)) rfl))) ?_
    refine OpsOk.cons rfl (.v (VOk.to (VOk.pickI (b := ((t1 || (a0 == 45)) || (a0 == 46))) (p := true) (q := t8) rfl rfl (fun hp10 => rfl) (fun hp10 => (cT (f_beq hp10)))) (pickOr ((t1 || (a0 == 45)) || (a0 == 46)) t8)) rfl) ?_
    refine OpsOk.cons rfl (.v (VOk.asg (d := (.v (.bool (((t1 || (a0 == 45)) || (a0 == 46)) || t8)))) rfl rfl) rfl) ?_
    exact .done (.mk ⟨.same _, trivial⟩ trivial)
  refine Ok.le (σ' := ⟨[(2, (.v (.bool (((t1 || (a0 == 45)) || (a0 == 46)) || t8))))], []⟩) (.mk ⟨.same _, trivial⟩ trivial) ?_
  refine Ok.ret ?_
  obtain rfl := Option.some.inj H
  exact ⟨.inl rfl, ⟨_, (.cons (.tmp rfl) .nil), rfl⟩, trivial⟩

/-! watchbill/watchbillref01.Name: function 29 -/
def watchbillref01_Name.l0 (k : Nat) (a0 : Str) : Nat → Int → Option Bool
  | 0, _ => none
  | m5 + 1, x3_3 => (if (decide (x3_3 < (a0.length : Int))) = true then ((watchbillref01_Rune k a0 x3_3).bind fun (t6 : Int × Int) => (((if (((t6.2 == 0) == false) && ((x3_3 == 0) == true)) = true then watchbillref01_Start k t6.1 else some default)).bind fun (t10 : Bool) => (((if (((t6.2 == 0) || ((x3_3 == 0) && (!t10))) == false) = true then watchbillref01_Part k t6.1 else some default)).bind fun (t15 : Bool) => (if (((t6.2 == 0) || ((x3_3 == 0) && (!t10))) || (!t15)) = true then some false else watchbillref01_Name.l0 k a0 m5 (IntKind.i64.wrap (x3_3 + t6.2)))))) else some true)
def watchbillref01_Name (k : Nat) (a0 : Str) : Option Bool := (if ((decide ((a0.length : Int) < 1)) || (decide ((a0.length : Int) > 64))) = true then some false else watchbillref01_Name.l0 k a0 k 0)
theorem watchbillref01_Name.ok {k : Nat} {a0 : Str} {r : Bool} (H : watchbillref01_Name k a0 = some r) : Vx.Fn Try.prog 29 [(S a0)] [] (.v (.bool r)) [] := by
  unfold watchbillref01_Name at H
  refine Vx.Fn.of_okR Try.func29 rfl (Nat.le_of_ble_eq_true rfl) ?_
  refine Ok.seq ?_
  refine Ok.region (σ' := ⟨[(0, (S a0))], []⟩) ?_ ?_
  · refine OpsOk.cons rfl (.v (VOk.asg (d := (.v (.bool false))) rfl rfl) rfl) ?_
    exact .done (.mk ⟨.same _, trivial⟩ trivial)
  refine Ok.seq ?_
  refine Ok.seq ?_
  refine Ok.region (σ' := ⟨[(0, (S a0)), (13, (.v (.bool ((decide ((a0.length : Int) < 1)) || (decide ((a0.length : Int) > 64))))))], []⟩) ?_ ?_
  · refine OpsOk.cons rfl (.v (VOk.mv (d := (S a0)) rfl rfl) rfl) ?_
    refine OpsOk.cons rfl (.v (VOk.lenStr (s := a0) rfl Try.underlying9 rfl) rfl) ?_
    refine OpsOk.cons rfl (.v (VOk.arith (op := .lss) (k := .i64) (a := (a0.length : Int)) (b := 1) rfl rfl rfl rfl) rfl) ?_
    refine OpsOk.cons rfl (.v (VOk.mv (d := (.v (.bool (decide ((a0.length : Int) < 1))))) rfl rfl) rfl) ?_
    refine OpsOk.consI rfl rfl rfl (.one rfl) rfl (fun hw1 => (VOk.g (VOk.mv (d := (S a0)) rfl rfl))) ?_
    refine OpsOk.consI rfl rfl rfl (.one rfl) rfl (fun hw1 => (GOk.fr (fr' := [(10, (S a0))]) ⟨DLe.of_eq (cT hw1).symm, trivial⟩ (VOk.g (VOk.lenStr (s := a0) rfl Try.underlying9 rfl)))) ?_
    refine OpsOk.consI rfl rfl rfl (.one rfl) rfl (fun hw1 => (GOk.fr (fr' := [(11, (.v (.int .i64 (a0.length : Int))))]) ⟨DLe.of_eq (cT hw1).symm, trivial⟩ (VOk.g (VOk.arith (op := .gtr) (k := .i64) (a := (a0.length : Int)) (b := 64) rfl rfl rfl rfl)))) ?_
    refine OpsOk.cons rfl (.v (VOk.to (VOk.pickI (b := (decide ((a0.length : Int) < 1))) (p := true) (q := (decide ((a0.length : Int) > 64))) rfl rfl (fun hp2 => rfl) (fun hp2 => (cT (f_beq hp2)))) (pickOr (decide ((a0.length : Int) < 1)) (decide ((a0.length : Int) > 64)))) rfl) ?_
    exact .done (.mk ⟨.same _, .same _, trivial⟩ trivial)
  refine Ok.test (b := ((decide ((a0.length : Int) < 1)) || (decide ((a0.length : Int) > 64)))) rfl (fun hb20 => ?_) (fun hb20 => ?_)
  · replace H := ifT H hb20
    refine Ok.seq ?_
    refine Ok.region (σ' := ⟨[(2, (.v (.bool false)))], []⟩) ?_ ?_
    · refine OpsOk.cons rfl (.v (VOk.asg (d := (.v (.bool false))) rfl rfl) rfl) ?_
      exact .done (.mk ⟨.same _, trivial⟩ trivial)
    refine Ok.le (σ' := ⟨[(2, (.v (.bool false)))], []⟩) (.mk ⟨.same _, trivial⟩ trivial) ?_
    refine Ok.ret ?_
    obtain rfl := Option.some.inj H
    exact ⟨.inl rfl, ⟨_, (.cons (.tmp rfl) .nil), rfl⟩, trivial⟩
  · replace H := ifF H hb20
    refine Ok.le (σ' := ⟨[(0, (S a0))], []⟩) (.mk ⟨.same _, trivial⟩ trivial) ?_
    refine Ok.skip ?_
    refine Ok.seq ?_
    refine Ok.region (σ' := ⟨[(0, (S a0)), (3, (.v (.int .i64 0)))], []⟩) ?_ ?_
    · refine OpsOk.cons rfl (.v (VOk.asg (d := (.v (.int .i64 0))) rfl rfl) rfl) ?_
      exact .done (.mk ⟨.same _, .same _, trivial⟩ trivial)
    refine Ok.seq ?_
    refine Ok.block ?_
    refine Ok.le (σ' := ⟨[(0, (S a0)), (3, (.v (.int .i64 0)))], []⟩) (.mk ⟨.same _, .same _, trivial⟩ trivial) ?_
    refine Ok.loop (fun m5 σ => ∃ (x3_3 : Int), σ = ⟨[(0, (S a0)), (3, (.v (.int .i64 x3_3)))], []⟩ ∧ watchbillref01_Name.l0 k a0 m5 x3_3 = some r) k ⟨0, rfl, H⟩ ?_
    rintro m5 σ ⟨x3_3, rfl, H⟩
    cases m5 with
    | zero => exact absurd H (by simp [watchbillref01_Name.l0])
    | succ m5 =>
      unfold watchbillref01_Name.l0 at H
      refine Ok.seq ?_
      refine Ok.seq ?_
      refine Ok.region (σ' := ⟨[(0, (S a0)), (3, (.v (.int .i64 x3_3))), (17, (.v (.bool (decide (x3_3 < (a0.length : Int))))))], []⟩) ?_ ?_
      · refine OpsOk.cons rfl (.v (VOk.mv (d := (.v (.int .i64 x3_3))) rfl rfl) rfl) ?_
        refine OpsOk.cons rfl (.v (VOk.mv (d := (S a0)) rfl rfl) rfl) ?_
        refine OpsOk.cons rfl (.v (VOk.lenStr (s := a0) rfl Try.underlying9 rfl) rfl) ?_
        refine OpsOk.cons rfl (.v (VOk.arith (op := .lss) (k := .i64) (a := x3_3) (b := (a0.length : Int)) rfl rfl rfl rfl) rfl) ?_
        exact .done (.mk ⟨.same _, .same _, .same _, trivial⟩ trivial)
      refine Ok.test (b := (decide (x3_3 < (a0.length : Int)))) rfl (fun hb19 => ?_) (fun hb19 => ?_)
      · replace H := ifT H hb19
        refine Ok.le (σ' := ⟨[(0, (S a0)), (3, (.v (.int .i64 x3_3)))], []⟩) (.mk ⟨.same _, .same _, trivial⟩ trivial) ?_
        refine Ok.skip ?_
        refine Ok.block ?_
        refine Ok.seq ?_
        obtain ⟨t6, h7, H⟩ := bindE H
        refine Ok.region (σ' := ⟨[(0, (S a0)), (3, (.v (.int .i64 x3_3))), (4, (.v (.int .i64 t6.1))), (5, (.v (.int .i64 t6.2)))], []⟩) ?_ ?_
        · refine OpsOk.cons rfl (.v (VOk.mv (d := (S a0)) rfl rfl) rfl) ?_
          refine OpsOk.cons rfl (.v (VOk.mv (d := (.v (.int .i64 x3_3))) rfl rfl) rfl) ?_
          refine OpsOk.cons rfl (.g (GOk.call rfl rfl cl39 rfl (watchbillref01_Rune.ok h7) rfl) rfl) ?_
          refine OpsOk.cons rfl (.v (VOk.mv (d := (.tup [(.v (.int .i64 t6.1)), (.v (.int .i64 t6.2))])) rfl rfl) rfl) ?_
          refine OpsOk.cons rfl (.v (VOk.extract (d := (.v (.int .i64 t6.1))) rfl rfl rfl) rfl) ?_
          refine OpsOk.cons rfl (.v (VOk.extract (d := (.v (.int .i64 t6.2))) rfl rfl rfl) rfl) ?_
          refine OpsOk.cons rfl (.v (VOk.asg (d := (.v (.int .i64 t6.1))) rfl rfl) rfl) ?_
          refine OpsOk.cons rfl (.v (VOk.asg (d := (.v (.int .i64 t6.2))) rfl rfl) rfl) ?_
          exact .done (.mk ⟨.same _, .same _, .same _, .same _, trivial⟩ trivial)
        refine Ok.seq ?_
        refine Ok.seq ?_
        obtain ⟨t10, h11, H⟩ := bindE H
        obtain ⟨t15, h16, H⟩ := bindE H
        refine Ok.region (σ' := ⟨[(0, (S a0)), (3, (.v (.int .i64 x3_3))), (5, (.v (.int .i64 t6.2))), (39, (.v (.bool (((t6.2 == 0) || ((x3_3 == 0) && (!t10))) || (!t15)))))], []⟩) ?_ ?_
        · refine OpsOk.cons rfl (.v (VOk.mv (d := (.v (.int .i64 t6.2))) rfl rfl) rfl) ?_
          refine OpsOk.cons rfl (.v (VOk.arith (op := .eql) (k := .i64) (a := t6.2) (b := 0) rfl rfl rfl rfl) rfl) ?_
          refine OpsOk.cons rfl (.v (VOk.mv (d := (.v (.bool (t6.2 == 0)))) rfl rfl) rfl) ?_
          refine OpsOk.consI rfl rfl rfl (.one rfl) rfl (fun hw8 => (VOk.g (VOk.mv (d := (.v (.int .i64 x3_3))) rfl rfl))) ?_
          refine OpsOk.consI rfl rfl rfl (.one rfl) rfl (fun hw8 => (GOk.fr (fr' := [(27, (.v (.int .i64 x3_3)))]) ⟨DLe.of_eq (cT hw8).symm, trivial⟩ (VOk.g (VOk.arith (op := .eql) (k := .i64) (a := x3_3) (b := 0) rfl rfl rfl rfl)))) ?_
          refine OpsOk.consI rfl rfl rfl (.one rfl) rfl (fun hw8 => (GOk.fr (fr' := [(28, (.v (.bool (x3_3 == 0))))]) ⟨DLe.of_eq (cT hw8).symm, trivial⟩ (VOk.g (VOk.mv (d := (.v (.bool (x3_3 == 0)))) rfl rfl)))) ?_
          refine OpsOk.consI rfl rfl rfl (.two rfl) rfl (fun hw9 => (VOk.g (VOk.mv (d := (.v (.int .i64 t6.1))) rfl rfl))) ?_
          refine OpsOk.consI rfl rfl rfl (.two rfl) rfl (fun hw9 => (GOk.fr (fr' := [(30, (.v (.int .i64 t6.1)))]) ⟨DLe.of_eq (cT hw9).symm, trivial⟩ (GOk.call rfl rfl cl40 rfl (watchbillref01_Start.ok (ifT h11 hw9)) rfl))) ?_
          refine OpsOk.consI rfl rfl rfl (.two rfl) rfl (fun hw9 => (GOk.fr (fr' := [(31, (.v (.bool t10)))]) ⟨DLe.of_eq (cT hw9).symm, trivial⟩ (VOk.g (VOk.not (b := t10) rfl rfl)))) ?_
          refine OpsOk.consI rfl rfl rfl (.one rfl) rfl (fun hw8 => (VOk.g (VOk.to (VOk.pickI (b := (x3_3 == 0)) (p := (!t10)) (q := false) rfl (cT hw8) (fun hp12 => (cT (and_i hw8 (t_beq hp12)))) (fun hp12 => rfl)) (pickAnd (x3_3 == 0) (!t10))))) ?_
          refine OpsOk.cons rfl (.v (VOk.to (VOk.pickI (b := (t6.2 == 0)) (p := true) (q := ((x3_3 == 0) && (!t10))) rfl rfl (fun hp13 => rfl) (fun hp13 => (cT (f_beq hp13)))) (pickOr (t6.2 == 0) ((x3_3 == 0) && (!t10)))) rfl) ?_
          refine OpsOk.cons rfl (.v (VOk.mv (d := (.v (.bool ((t6.2 == 0) || ((x3_3 == 0) && (!t10)))))) rfl rfl) rfl) ?_
          refine OpsOk.consI rfl rfl rfl (.one rfl) rfl (fun hw14 => (VOk.g (VOk.mv (d := (.v (.int .i64 t6.1))) rfl rfl))) ?_
          refine OpsOk.consI rfl rfl rfl (.one rfl) rfl (fun hw14 => (GOk.fr (fr' := [(36, (.v (.int .i64 t6.1)))]) ⟨DLe.of_eq (cT hw14).symm, trivial⟩ (GOk.call rfl rfl cl41 rfl (watchbillref01_Part.ok (ifT h16 hw14)) rfl))) ?_
          refine OpsOk.consI rfl rfl rfl (.one rfl) rfl (fun hw14 => (GOk.fr (fr' := [(37, (.v (.bool t15)))]) ⟨DLe.of_eq (cT hw14).symm, trivial⟩ (VOk.g (VOk.not (b := t15) rfl rfl)))) ?_
          refine OpsOk.cons rfl (.v (VOk.to (VOk.pickI (b := ((t6.2 == 0) || ((x3_3 == 0) && (!t10)))) (p := true) (q := (!t15)) rfl rfl (fun hp17 => rfl) (fun hp17 => (cT (f_beq hp17)))) (pickOr ((t6.2 == 0) || ((x3_3 == 0) && (!t10))) (!t15))) rfl) ?_
          exact .done (.mk ⟨.same _, .same _, .same _, .same _, trivial⟩ trivial)
        refine Ok.test (b := (((t6.2 == 0) || ((x3_3 == 0) && (!t10))) || (!t15))) rfl (fun hb18 => ?_) (fun hb18 => ?_)
        · replace H := ifT H hb18
          refine Ok.seq ?_
          refine Ok.region (σ' := ⟨[(2, (.v (.bool false)))], []⟩) ?_ ?_
          · refine OpsOk.cons rfl (.v (VOk.asg (d := (.v (.bool false))) rfl rfl) rfl) ?_
            exact .done (.mk ⟨.same _, trivial⟩ trivial)
          refine Ok.le (σ' := ⟨[(2, (.v (.bool false)))], []⟩) (.mk ⟨.same _, trivial⟩ trivial) ?_
          refine Ok.ret ?_
          obtain rfl := Option.some.inj H
          exact ⟨.inl rfl, ⟨_, (.cons (.tmp rfl) .nil), rfl⟩, trivial⟩
        · replace H := ifF H hb18
          refine Ok.le (σ' := ⟨[(0, (S a0)), (3, (.v (.int .i64 x3_3))), (5, (.v (.int .i64 t6.2)))], []⟩) (.mk ⟨.same _, .same _, .same _, trivial⟩ trivial) ?_
          refine Ok.skip ?_
          refine Ok.region (σ' := ⟨[(0, (S a0)), (3, (.v (.int .i64 (IntKind.i64.wrap (x3_3 + t6.2)))))], []⟩) ?_ ?_
          · refine OpsOk.cons rfl (.v (VOk.mv (d := (.v (.int .i64 x3_3))) rfl rfl) rfl) ?_
            refine OpsOk.cons rfl (.v (VOk.mv (d := (.v (.int .i64 t6.2))) rfl rfl) rfl) ?_
            refine OpsOk.cons rfl (.v (VOk.arith (op := .add) (k := .i64) (a := x3_3) (b := t6.2) rfl rfl rfl rfl) rfl) ?_
            refine OpsOk.cons rfl (.v (VOk.asg (d := (.v (.int .i64 (IntKind.i64.wrap (x3_3 + t6.2))))) rfl rfl) rfl) ?_
            exact .done (.mk ⟨.same _, .same _, trivial⟩ trivial)
          exact ⟨m5, Nat.lt_succ_self m5, (IntKind.i64.wrap (x3_3 + t6.2)), rfl, H⟩
      · replace H := ifF H hb19
        refine Ok.le (σ' := ⟨[], []⟩) (.mk trivial trivial) ?_
        refine Ok.exit ?_
        refine Ok.seq ?_
        refine Ok.region (σ' := ⟨[(2, (.v (.bool true)))], []⟩) ?_ ?_
        · refine OpsOk.cons rfl (.v (VOk.asg (d := (.v (.bool true))) rfl rfl) rfl) ?_
          exact .done (.mk ⟨.same _, trivial⟩ trivial)
        refine Ok.le (σ' := ⟨[(2, (.v (.bool true)))], []⟩) (.mk ⟨.same _, trivial⟩ trivial) ?_
        refine Ok.ret ?_
        obtain rfl := Option.some.inj H
        exact ⟨.inl rfl, ⟨_, (.cons (.tmp rfl) .nil), rfl⟩, trivial⟩

/-! watchbill/watchbillref02.Add: function 14 -/
def watchbillref02_Add (k : Nat) (a0 : List T_api_Bind) (a1 : Str) (a2 : Str) : Option ((List T_api_Bind) × Int) := (((if ((!(a1 == ([] : Str))) == true) = true then watchbillref01_Name k a1 else some default)).bind fun (t2 : Bool) => (if ((!(a1 == ([] : Str))) && (!t2)) = true then some (([] : List T_api_Bind), 12) else (if ((((a1 == ([120, 109, 108, 110, 115] : Str)) || (!((a1 == ([120, 109, 108] : Str)) == (a2 == ([104, 116, 116, 112, 58, 47, 47, 119, 119, 119, 46, 119, 51, 46, 111, 114, 103, 47, 88, 77, 76, 47, 49, 57, 57, 56, 47, 110, 97, 109, 101, 115, 112, 97, 99, 101] : Str))))) || (a2 == ([104, 116, 116, 112, 58, 47, 47, 119, 119, 119, 46, 119, 51, 46, 111, 114, 103, 47, 50, 48, 48, 48, 47, 120, 109, 108, 110, 115, 47] : Str))) || ((a2 == ([] : Str)) && (!(a1 == ([] : Str))))) = true then some (([] : List T_api_Bind), 13) else (if (([] : List T_api_Bind).length + a0.length) * 32 ≤ 140737488355328 then (if ((([] : List T_api_Bind) ++ a0).length + ([(T_api_Bind.mk a1 a2)] : List T_api_Bind).length) * 32 ≤ 140737488355328 then some (((([] : List T_api_Bind) ++ a0) ++ ([(T_api_Bind.mk a1 a2)] : List T_api_Bind)), 0) else none) else none))))
theorem watchbillref02_Add.ok {k : Nat} {a0 : List T_api_Bind} {a1 : Str} {a2 : Str} {r : (List T_api_Bind) × Int} (H : watchbillref02_Add k a0 a1 a2 = some r) : Vx.Fn Try.prog 14 [(L 2 e_api_Bind a0), (S a1), (S a2)] [] (.tup [(L 2 e_api_Bind r.1), (.v (.int .i64 r.2))]) [] := by
  unfold watchbillref02_Add at H
  refine Vx.Fn.of_okR Try.func14 rfl (Nat.le_of_ble_eq_true rfl) ?_
  refine Ok.seq ?_
  refine Ok.region (σ' := ⟨[(0, (L 2 e_api_Bind a0)), (1, (S a1)), (2, (S a2))], []⟩) ?_ ?_
  · refine OpsOk.cons rfl (.nilT 6 35 2 (.inl rfl) rfl rfl) ?_
    refine OpsOk.cons rfl (.v (VOk.asg (d := (.v (.int .i64 0))) rfl rfl) rfl) ?_
    exact .done (.mk ⟨.same _, .same _, .same _, trivial⟩ trivial)
  refine Ok.seq ?_
  refine Ok.seq ?_
  obtain ⟨t2, h3, H⟩ := bindE H
  refine Ok.region (σ' := ⟨[(0, (L 2 e_api_Bind a0)), (1, (S a1)), (2, (S a2)), (14, (.v (.bool ((!(a1 == ([] : Str))) && (!t2)))))], []⟩) ?_ ?_
  · refine OpsOk.cons rfl (.v (VOk.mv (d := (S a1)) rfl rfl) rfl) ?_
    refine OpsOk.cons rfl (.v (VOk.strOp (op := .neq) (a := a1) (b := ([] : Str)) rfl rfl rfl rfl) rfl) ?_
    refine OpsOk.cons rfl (.v (VOk.mv (d := (.v (.bool (!(a1 == ([] : Str)))))) rfl rfl) rfl) ?_
    refine OpsOk.consI rfl rfl rfl (.one rfl) rfl (fun hw1 => (VOk.g (VOk.mv (d := (S a1)) rfl rfl))) ?_
    refine OpsOk.consI rfl rfl rfl (.one rfl) rfl (fun hw1 => (GOk.fr (fr' := [(11, (S a1))]) ⟨DLe.of_eq (cT hw1).symm, trivial⟩ (GOk.call rfl rfl cl29 rfl (watchbillref01_Name.ok (ifT h3 hw1)) rfl))) ?_
    refine OpsOk.consI rfl rfl rfl (.one rfl) rfl (fun hw1 => (GOk.fr (fr' := [(12, (.v (.bool t2)))]) ⟨DLe.of_eq (cT hw1).symm, trivial⟩ (VOk.g (VOk.not (b := t2) rfl rfl)))) ?_
    refine OpsOk.cons rfl (.v (VOk.to (VOk.pickI (b := (!(a1 == ([] : Str)))) (p := (!t2)) (q := false) rfl rfl (fun hp4 => (cT (t_beq hp4))) (fun hp4 => rfl)) (pickAnd (!(a1 == ([] : Str))) (!t2))) rfl) ?_
    exact .done (.mk ⟨.same _, .same _, .same _, .same _, trivial⟩ trivial)
  refine Ok.test (b := ((!(a1 == ([] : Str))) && (!t2))) rfl (fun hb16 => ?_) (fun hb16 => ?_)
  · replace H := ifT H hb16
    refine Ok.seq ?_
    refine Ok.region (σ' := ⟨[(6, (.sref 6)), (7, (.v (.int .i64 12)))], [(6, (.rows true 35 2 (([] : List T_api_Bind).map e_api_Bind)))]⟩) ?_ ?_
    · refine OpsOk.cons rfl (.nilT 6 35 2 (.inl rfl) rfl rfl) ?_
      refine OpsOk.cons rfl (.v (VOk.asg (d := (.v (.int .i64 12))) rfl rfl) rfl) ?_
      exact .done (.mk ⟨.same _, .same _, trivial⟩ ⟨.same _, trivial⟩)
    refine Ok.frzL 6 (e := e_api_Bind) (xs := ([] : List T_api_Bind)) rfl ?_
    refine Ok.le (σ' := ⟨[(6, (L 2 e_api_Bind ([] : List T_api_Bind))), (7, (.v (.int .i64 12)))], []⟩) (.mk ⟨.same _, .same _, trivial⟩ trivial) ?_
    refine Ok.ret ?_
    obtain rfl := Option.some.inj H
    exact ⟨.inl rfl, ⟨_, (.cons (.tmp rfl) (.cons (.tmp rfl) .nil)), rfl⟩, trivial⟩
  · replace H := ifF H hb16
    refine Ok.le (σ' := ⟨[(0, (L 2 e_api_Bind a0)), (1, (S a1)), (2, (S a2))], []⟩) (.mk ⟨.same _, .same _, .same _, trivial⟩ trivial) ?_
    refine Ok.skip ?_
    refine Ok.seq ?_
    refine Ok.seq ?_
    refine Ok.region (σ' := ⟨[(0, (L 2 e_api_Bind a0)), (1, (S a1)), (2, (S a2)), (35, (.v (.bool ((((a1 == ([120, 109, 108, 110, 115] : Str)) || (!((a1 == ([120, 109, 108] : Str)) == (a2 == ([104, 116, 116, 112, 58, 47, 47, 119, 119, 119, 46, 119, 51, 46, 111, 114, 103, 47, 88, 77, 76, 47, 49, 57, 57, 56, 47, 110, 97, 109, 101, 115, 112, 97, 99, 101] : Str))))) || (a2 == ([104, 116, 116, 112, 58, 47, 47, 119, 119, 119, 46, 119, 51, 46, 111, 114, 103, 47, 50, 48, 48, 48, 47, 120, 109, 108, 110, 115, 47] : Str))) || ((a2 == ([] : Str)) && (!(a1 == ([] : Str))))))))], []⟩) ?_ ?_
    · refine OpsOk.cons rfl (.v (VOk.mv (d := (S a1)) rfl rfl) rfl) ?_
      refine OpsOk.cons rfl (.v (VOk.strOp (op := .eql) (a := a1) (b := ([120, 109, 108, 110, 115] : Str)) rfl rfl rfl rfl) rfl) ?_
      refine OpsOk.cons rfl (.v (VOk.mv (d := (.v (.bool (a1 == ([120, 109, 108, 110, 115] : Str))))) rfl rfl) rfl) ?_
      refine OpsOk.consI rfl rfl rfl (.one rfl) rfl (fun hw5 => (VOk.g (VOk.mv (d := (S a1)) rfl rfl))) ?_
      refine OpsOk.consI rfl rfl rfl (.one rfl) rfl (fun hw5 => (GOk.fr (fr' := [(18, (S a1))]) ⟨DLe.of_eq (cT hw5).symm, trivial⟩ (VOk.g (VOk.strOp (op := .eql) (a := a1) (b := ([120, 109, 108] : Str)) rfl rfl rfl rfl)))) ?_
      refine OpsOk.consI rfl rfl rfl (.one rfl) rfl (fun hw5 => (VOk.g (VOk.mv (d := (S a2)) rfl rfl))) ?_
      refine OpsOk.consI rfl rfl rfl (.one rfl) rfl (fun hw5 => (GOk.fr (fr' := [(20, (S a2))]) ⟨DLe.of_eq (cT hw5).symm, trivial⟩ (VOk.g (VOk.strOp (op := .eql) (a := a2) (b := ([104, 116, 116, 112, 58, 47, 47, 119, 119, 119, 46, 119, 51, 46, 111, 114, 103, 47, 88, 77, 76, 47, 49, 57, 57, 56, 47, 110, 97, 109, 101, 115, 112, 97, 99, 101] : Str)) rfl rfl rfl rfl)))) ?_
      refine OpsOk.consI rfl rfl rfl (.one rfl) rfl (fun hw5 => (GOk.fr (fr' := [(19, (.v (.bool (a1 == ([120, 109, 108] : Str))))), (21, (.v (.bool (a2 == ([104, 116, 116, 112, 58, 47, 47, 119, 119, 119, 46, 119, 51, 46, 111, 114, 103, 47, 88, 77, 76, 47, 49, 57, 57, 56, 47, 110, 97, 109, 101, 115, 112, 97, 99, 101] : Str)))))]) ⟨DLe.of_eq (cT hw5).symm, DLe.of_eq (cT hw5).symm, trivial⟩ (VOk.g (VOk.eqB (op := .neq) (p := (a1 == ([120, 109, 108] : Str))) (q := (a2 == ([104, 116, 116, 112, 58, 47, 47, 119, 119, 119, 46, 119, 51, 46, 111, 114, 103, 47, 88, 77, 76, 47, 49, 57, 57, 56, 47, 110, 97, 109, 101, 115, 112, 97, 99, 101] : Str))) rfl (.inr rfl) Try.underlying4 rfl rfl)))) ?_
      refine OpsOk.cons rfl (.v (VOk.to (VOk.pickI (b := (a1 == ([120, 109, 108, 110, 115] : Str))) (p := true) (q := (!((a1 == ([120, 109, 108] : Str)) == (a2 == ([104, 116, 116, 112, 58, 47, 47, 119, 119, 119, 46, 119, 51, 46, 111, 114, 103, 47, 88, 77, 76, 47, 49, 57, 57, 56, 47, 110, 97, 109, 101, 115, 112, 97, 99, 101] : Str))))) rfl rfl (fun hp6 => rfl) (fun hp6 => (cT (f_beq hp6)))) (pickOr (a1 == ([120, 109, 108, 110, 115] : Str)) (!((a1 == ([120, 109, 108] : Str)) == (a2 == ([104, 116, 116, 112, 58, 47, 47, 119, 119, 119, 46, 119, 51, 46, 111, 114, 103, 47, 88, 77, 76, 47, 49, 57, 57, 56, 47, 110, 97, 109, 101, 115, 112, 97, 99, 101] : Str)))))) rfl) ?_
      refine OpsOk.cons rfl (.v (VOk.mv (d := (.v (.bool ((a1 == ([120, 109, 108, 110, 115] : Str)) || (!((a1 == ([120, 109, 108] : Str)) == (a2 == ([104, 116, 116, 112, 58, 47, 47, 119, 119, 119, 46, 119, 51, 46, 111, 114, 103, 47, 88, 77, 76, 47, 49, 57, 57, 56, 47, 110, 97, 109, 101, 115, 112, 97, 99, 101] : Str)))))))) rfl rfl) rfl) ?_
      refine OpsOk.consI rfl rfl rfl (.one rfl) rfl (fun hw7 => (VOk.g (VOk.mv (d := (S a2)) rfl rfl))) ?_
      refine OpsOk.consI rfl rfl rfl (.one rfl) rfl (fun hw7 => (GOk.fr (fr' := [(25, (S a2))]) ⟨DLe.of_eq (cT hw7).symm, trivial⟩ (VOk.g (VOk.strOp (op := .eql) (a := a2) (b := ([104, 116, 116, 112, 58, 47, 47, 119, 119, 119, 46, 119, 51, 46, 111, 114, 103, 47, 50, 48, 48, 48, 47, 120, 109, 108, 110, 115, 47] : Str)) rfl rfl rfl rfl)))) ?_
      refine OpsOk.cons rfl (.v (VOk.to (VOk.pickI (b := ((a1 == ([120, 109, 108, 110, 115] : Str)) || (!((a1 == ([120, 109, 108] : Str)) == (a2 == ([104, 116, 116, 112, 58, 47, 47, 119, 119, 119, 46, 119, 51, 46, 111, 114, 103, 47, 88, 77, 76, 47, 49, 57, 57, 56, 47, 110, 97, 109, 101, 115, 112, 97, 99, 101] : Str)))))) (p := true) (q := (a2 == ([104, 116, 116, 112, 58, 47, 47, 119, 119, 119, 46, 119, 51, 46, 111, 114, 103, 47, 50, 48, 48, 48, 47, 120, 109, 108, 110, 115, 47] : Str))) rfl rfl (fun hp8 => rfl) (fun hp8 => (cT (f_beq hp8)))) (pickOr ((a1 == ([120, 109, 108, 110, 115] : Str)) || (!((a1 == ([120, 109, 108] : Str)) == (a2 == ([104, 116, 116, 112, 58, 47, 47, 119, 119, 119, 46, 119, 51, 46, 111, 114, 103, 47, 88, 77, 76, 47, 49, 57, 57, 56, 47, 110, 97, 109, 101, 115, 112, 97, 99, 101] : Str))))) (a2 == ([104, 116, 116, 112, 58, 47, 47, 119, 119, 119, 46, 119, 51, 46, 111, 114, 103, 47, 50, 48, 48, 48, 47, 120, 109, 108, 110, 115, 47] : Str)))) rfl) ?_
      refine OpsOk.cons rfl (.v (VOk.mv (d := (.v (.bool (((a1 == ([120, 109, 108, 110, 115] : Str)) || (!((a1 == ([120, 109, 108] : Str)) == (a2 == ([104, 116, 116, 112, 58, 47, 47, 119, 119, 119, 46, 119, 51, 46, 111, 114, 103, 47, 88, 77, 76, 47, 49, 57, 57, 56, 47, 110, 97, 109, 101, 115, 112, 97, 99, 101] : Str))))) || (a2 == ([104, 116, 116, 112, 58, 47, 47, 119, 119, 119, 46, 119, 51, 46, 111, 114, 103, 47, 50, 48, 48, 48, 47, 120, 109, 108, 110, 115, 47] : Str)))))) rfl rfl) rfl) ?_
      refine OpsOk.consI rfl rfl rfl (.one rfl) rfl (fun hw9 => (VOk.g (VOk.mv (d := (S a2)) rfl rfl))) ?_
      refine OpsOk.consI rfl rfl rfl (.one rfl) rfl (fun hw9 => (GOk.fr (fr' := [(29, (S a2))]) ⟨DLe.of_eq (cT hw9).symm, trivial⟩ (VOk.g (VOk.strOp (op := .eql) (a := a2) (b := ([] : Str)) rfl rfl rfl rfl)))) ?_
      refine OpsOk.consI rfl rfl rfl (.one rfl) rfl (fun hw9 => (GOk.fr (fr' := [(30, (.v (.bool (a2 == ([] : Str)))))]) ⟨DLe.of_eq (cT hw9).symm, trivial⟩ (VOk.g (VOk.mv (d := (.v (.bool (a2 == ([] : Str))))) rfl rfl)))) ?_
      refine OpsOk.consI rfl rfl rfl (.two rfl) rfl (fun hw10 => (VOk.g (VOk.mv (d := (S a1)) rfl rfl))) ?_
      refine OpsOk.consI rfl rfl rfl (.two rfl) rfl (fun hw10 => (GOk.fr (fr' := [(32, (S a1))]) ⟨DLe.of_eq (cT hw10).symm, trivial⟩ (VOk.g (VOk.strOp (op := .neq) (a := a1) (b := ([] : Str)) rfl rfl rfl rfl)))) ?_
      refine OpsOk.consI rfl rfl rfl (.one rfl) rfl (fun hw9 => (VOk.g (VOk.to (VOk.pickI (b := (a2 == ([] : Str))) (p := (!(a1 == ([] : Str)))) (q := false) rfl (cT hw9) (fun hp11 => (cT (and_i hw9 (t_beq hp11)))) (fun hp11 => rfl)) (pickAnd (a2 == ([] : Str)) (!(a1 == ([] : Str))))))) ?_
      refine OpsOk.cons rfl (.v (VOk.to (VOk.pickI (b := (((a1 == ([120, 109, 108, 110, 115] : Str)) || (!((a1 == ([120, 109, 108] : Str)) == (a2 == ([104, 116, 116, 112, 58, 47, 47, 119, 119, 119, 46, 119, 51, 46, 111, 114, 103, 47, 88, 77, 76, 47, 49, 57, 57, 56, 47, 110, 97, 109, 101, 115, 112, 97, 99, 101] : Str))))) || (a2 == ([104, 116, 116, 112, 58, 47, 47, 119, 119, 119, 46, 119, 51, 46, 111, 114, 103, 47, 50, 48, 48, 48, 47, 120, 109, 108, 110, 115, 47] : Str)))) (p := true) (q := ((a2 == ([] : Str)) && (!(a1 == ([] : Str))))) rfl rfl (fun hp12 => rfl) (fun hp12 => (cT (f_beq hp12)))) (pickOr (((a1 == ([120, 109, 108, 110, 115] : Str)) || (!((a1 == ([120, 109, 108] : Str)) == (a2 == ([104, 116, 116, 112, 58, 47, 47, 119, 119, 119, 46, 119, 51, 46, 111, 114, 103, 47, 88, 77, 76, 47, 49, 57, 57, 56, 47, 110, 97, 109, 101, 115, 112, 97, 99, 101] : Str))))) || (a2 == ([104, 116, 116, 112, 58, 47, 47, 119, 119, 119, 46, 119, 51, 46, 111, 114, 103, 47, 50, 48, 48, 48, 47, 120, 109, 108, 110, 115, 47] : Str))) ((a2 == ([] : Str)) && (!(a1 == ([] : Str)))))) rfl) ?_
      exact .done (.mk ⟨.same _, .same _, .same _, .same _, trivial⟩ trivial)
    refine Ok.test (b := ((((a1 == ([120, 109, 108, 110, 115] : Str)) || (!((a1 == ([120, 109, 108] : Str)) == (a2 == ([104, 116, 116, 112, 58, 47, 47, 119, 119, 119, 46, 119, 51, 46, 111, 114, 103, 47, 88, 77, 76, 47, 49, 57, 57, 56, 47, 110, 97, 109, 101, 115, 112, 97, 99, 101] : Str))))) || (a2 == ([104, 116, 116, 112, 58, 47, 47, 119, 119, 119, 46, 119, 51, 46, 111, 114, 103, 47, 50, 48, 48, 48, 47, 120, 109, 108, 110, 115, 47] : Str))) || ((a2 == ([] : Str)) && (!(a1 == ([] : Str)))))) rfl (fun hb15 => ?_) (fun hb15 => ?_)
    · replace H := ifT H hb15
      refine Ok.seq ?_
      refine Ok.region (σ' := ⟨[(6, (.sref 6)), (7, (.v (.int .i64 13)))], [(6, (.rows true 35 2 (([] : List T_api_Bind).map e_api_Bind)))]⟩) ?_ ?_
      · refine OpsOk.cons rfl (.nilT 6 35 2 (.inl rfl) rfl rfl) ?_
        refine OpsOk.cons rfl (.v (VOk.asg (d := (.v (.int .i64 13))) rfl rfl) rfl) ?_
        exact .done (.mk ⟨.same _, .same _, trivial⟩ ⟨.same _, trivial⟩)
      refine Ok.frzL 6 (e := e_api_Bind) (xs := ([] : List T_api_Bind)) rfl ?_
      refine Ok.le (σ' := ⟨[(6, (L 2 e_api_Bind ([] : List T_api_Bind))), (7, (.v (.int .i64 13)))], []⟩) (.mk ⟨.same _, .same _, trivial⟩ trivial) ?_
      refine Ok.ret ?_
      obtain rfl := Option.some.inj H
      exact ⟨.inl rfl, ⟨_, (.cons (.tmp rfl) (.cons (.tmp rfl) .nil)), rfl⟩, trivial⟩
    · replace H := ifF H hb15
      refine Ok.le (σ' := ⟨[(0, (L 2 e_api_Bind a0)), (1, (S a1)), (2, (S a2))], []⟩) (.mk ⟨.same _, .same _, .same _, trivial⟩ trivial) ?_
      refine Ok.skip ?_
      refine Ok.seq ?_
      obtain ⟨c13, H⟩ := assertE H
      obtain ⟨c14, H⟩ := assertE H
      refine Ok.region (σ' := ⟨[(6, (.sref 36)), (7, (.v (.int .i64 0)))], [(36, (.rows true 35 2 (((([] : List T_api_Bind) ++ a0) ++ ([(T_api_Bind.mk a1 a2)] : List T_api_Bind)).map e_api_Bind)))]⟩) ?_ ?_
      · refine OpsOk.cons rfl (OpOk.litT 36 rfl rfl Try.underlying26 sz35 zs35 rfl (rows := ([] : List T_api_Bind).map e_api_Bind) rfl rfl rfl rfl) ?_
        refine OpsOk.cons rfl (.v (VOk.mv (d := (L 2 e_api_Bind a0)) rfl rfl) rfl) ?_
        refine OpsOk.cons rfl (OpOk.appendL (e := e_api_Bind) (xs := ([] : List T_api_Bind)) (ys := a0) rfl Try.underlying26 elt35 rfl rfl rfl c13 rfl) ?_
        refine OpsOk.cons rfl (.v (VOk.mv (d := (S a1)) rfl rfl) rfl) ?_
        refine OpsOk.cons rfl (.v (VOk.mv (d := (S a2)) rfl rfl) rfl) ?_
        refine OpsOk.cons rfl (.v (VOk.to (d' := (.agg (e_api_Bind (T_api_Bind.mk a1 a2)))) (.build [none, none] [(0, 1), (1, 1)] rfl Try.underlying35 (fa35 Try.underlying35) zo35 rfl rfl) rfl) rfl) ?_
        refine OpsOk.cons rfl (.g (GOk.to (d' := (L 2 e_api_Bind ([(T_api_Bind.mk a1 a2)] : List T_api_Bind))) (GOk.lit rfl Try.underlying26 sz35 zs35 rfl rfl rfl rfl) rfl) rfl) ?_
        refine OpsOk.cons rfl (OpOk.appendL (e := e_api_Bind) (xs := (([] : List T_api_Bind) ++ a0)) (ys := ([(T_api_Bind.mk a1 a2)] : List T_api_Bind)) rfl Try.underlying26 elt35 rfl rfl rfl c14 rfl) ?_
        refine OpsOk.cons rfl (.v (VOk.asg (d := (.sref 36)) rfl rfl) rfl) ?_
        refine OpsOk.cons rfl (.v (VOk.asg (d := (.v (.int .i64 0))) rfl rfl) rfl) ?_
        exact .done (.mk ⟨.same _, .same _, trivial⟩ ⟨.same _, trivial⟩)
      refine Ok.frzL 36 (e := e_api_Bind) (xs := ((([] : List T_api_Bind) ++ a0) ++ ([(T_api_Bind.mk a1 a2)] : List T_api_Bind))) rfl ?_
      refine Ok.le (σ' := ⟨[(6, (L 2 e_api_Bind ((([] : List T_api_Bind) ++ a0) ++ ([(T_api_Bind.mk a1 a2)] : List T_api_Bind)))), (7, (.v (.int .i64 0)))], []⟩) (.mk ⟨.same _, .same _, trivial⟩ trivial) ?_
      refine Ok.ret ?_
      obtain rfl := Option.some.inj H
      exact ⟨.inl rfl, ⟨_, (.cons (.tmp rfl) (.cons (.tmp rfl) .nil)), rfl⟩, trivial⟩

/-! watchbill/watchbillref02.Declare: function 23 -/
def watchbillref02_Declare.l1 (k : Nat) (c0 : List T_api_Raw → List Str → List T_api_Bind → Int → Option ((List T_api_Bind) × (List T_api_Raw) × Int)) (a1 : List T_api_Raw) (x0_1 : List T_api_Bind) (x9_2 : Int) (t11 : Str × Bool) : Nat → List T_api_Raw → List Str → Int → Option ((List T_api_Bind) × (List T_api_Raw) × Int)
  | 0, _, _, _ => none
  | m26 + 1, y7_21, y8_22, x12_20 => (if (decide (x12_20 < (y8_22.length : Int))) = true then (if (0 : Int) ≤ x12_20 ∧ x12_20 < (y8_22.length : Int) then (if ((rd y8_22 x12_20) == t11.1) = true then some (([] : List T_api_Bind), ([] : List T_api_Raw), 14) else watchbillref02_Declare.l1 k c0 a1 x0_1 x9_2 t11 m26 y7_21 y8_22 (IntKind.i64.wrap (x12_20 + 1))) else none) else (if (y8_22.length + ([t11.1] : List Str).length) * 16 ≤ 140737488355328 then (if (0 : Int) ≤ x9_2 ∧ x9_2 < (a1.length : Int) then ((watchbillref02_Add k x0_1 t11.1 ((rd a1 x9_2).Value)).bind fun (t31 : (List T_api_Bind) × Int) => (if (t31.2 != 0) = true then some (([] : List T_api_Bind), ([] : List T_api_Raw), t31.2) else c0 y7_21 (y8_22 ++ ([t11.1] : List Str)) t31.1 (IntKind.i64.wrap (x9_2 + 1)))) else none) else none))
def watchbillref02_Declare.l0 (k : Nat) (a1 : List T_api_Raw) : Nat → List T_api_Raw → List Str → List T_api_Bind → Int → Option ((List T_api_Bind) × (List T_api_Raw) × Int)
  | 0, _, _, _, _ => none
  | m9 + 1, y7_3, y8_4, x0_1, x9_2 => (if (decide (x9_2 < (a1.length : Int))) = true then (if (0 : Int) ≤ x9_2 ∧ x9_2 < (a1.length : Int) then ((watchbillref02_declares ((rd a1 x9_2).Name)).bind fun (t11 : Str × Bool) => (if (!t11.2) = true then (if (0 : Int) ≤ x9_2 ∧ x9_2 < (a1.length : Int) then (if (y7_3.length + ([(rd a1 x9_2)] : List T_api_Raw).length) * 32 ≤ 140737488355328 then watchbillref02_Declare.l0 k a1 m9 (y7_3 ++ ([(rd a1 x9_2)] : List T_api_Raw)) y8_4 x0_1 (IntKind.i64.wrap (x9_2 + 1)) else none) else none) else (if (0 : Int) ≤ x9_2 ∧ x9_2 < (a1.length : Int) then (((if ((!(((rd a1 x9_2).Name) == ([120, 109, 108, 110, 115] : Str))) == true) = true then watchbillref01_Name k t11.1 else some default)).bind fun (t17 : Bool) => (if ((!(((rd a1 x9_2).Name) == ([120, 109, 108, 110, 115] : Str))) && (!t17)) = true then some (([] : List T_api_Bind), ([] : List T_api_Raw), 12) else watchbillref02_Declare.l1 k (watchbillref02_Declare.l0 k a1 m9) a1 x0_1 x9_2 t11 k y7_3 y8_4 0)) else none))) else none) else some (x0_1, y7_3, 0))
def watchbillref02_Declare (k : Nat) (a0 : List T_api_Bind) (a1 : List T_api_Raw) : Option ((List T_api_Bind) × (List T_api_Raw) × Int) := watchbillref02_Declare.l0 k a1 k ([] : List T_api_Raw) ([] : List Str) a0 0
theorem watchbillref02_Declare.ok {k : Nat} {a0 : List T_api_Bind} {a1 : List T_api_Raw} {r : (List T_api_Bind) × (List T_api_Raw) × Int} (H : watchbillref02_Declare k a0 a1 = some r) : Vx.Fn Try.prog 23 [(L 2 e_api_Bind a0), (L 2 e_api_Raw a1)] [] (.tup [(L 2 e_api_Bind r.1), (L 2 e_api_Raw r.2.1), (.v (.int .i64 r.2.2))]) [] := by
  unfold watchbillref02_Declare at H
  refine Vx.Fn.of_okR Try.func23 rfl (Nat.le_of_ble_eq_true rfl) ?_
  refine Ok.seq ?_
  refine Ok.region (σ' := ⟨[(0, (L 2 e_api_Bind a0)), (1, (L 2 e_api_Raw a1))], []⟩) ?_ ?_
  · refine OpsOk.cons rfl (.v (VOk.asg (d := (.v (.slice none 0 0))) rfl rfl) rfl) ?_
    refine OpsOk.cons rfl (.v (VOk.asg (d := (.v (.slice none 0 0))) rfl rfl) rfl) ?_
    refine OpsOk.cons rfl (.v (VOk.asg (d := (.v (.int .i64 0))) rfl rfl) rfl) ?_
    exact .done (.mk ⟨.same _, .same _, trivial⟩ trivial)
  refine Ok.seq ?_
  refine Ok.region (σ' := ⟨[(0, (L 2 e_api_Bind a0)), (1, (L 2 e_api_Raw a1)), (7, (.sref 7))], [(7, (.rows true 49 2 (([] : List T_api_Raw).map e_api_Raw)))]⟩) ?_ ?_
  · refine OpsOk.cons rfl (.nilT 7 49 2 (.inl rfl) rfl rfl) ?_
    exact .done (.mk ⟨.same _, .same _, .same _, trivial⟩ ⟨.same _, trivial⟩)
  refine Ok.seq ?_
  refine Ok.region (σ' := ⟨[(0, (L 2 e_api_Bind a0)), (1, (L 2 e_api_Raw a1)), (7, (.sref 7)), (8, (.sref 8))], [(7, (.rows true 49 2 (([] : List T_api_Raw).map e_api_Raw))), (8, (.rows true 9 1 (([] : List Str).map eS)))]⟩) ?_ ?_
  · refine OpsOk.cons rfl (.nilT 8 9 1 (.inl rfl) rfl rfl) ?_
    exact .done (.mk ⟨.same _, .same _, .same _, .same _, trivial⟩ ⟨.same _, .same _, trivial⟩)
  refine Ok.seq ?_
  refine Ok.seq ?_
  refine Ok.region (σ' := ⟨[(0, (L 2 e_api_Bind a0)), (1, (L 2 e_api_Raw a1)), (7, (.sref 7)), (8, (.sref 8)), (9, (.v (.int .i64 0)))], [(7, (.rows true 49 2 (([] : List T_api_Raw).map e_api_Raw))), (8, (.rows true 9 1 (([] : List Str).map eS)))]⟩) ?_ ?_
  · refine OpsOk.cons rfl (.v (VOk.asg (d := (.v (.int .i64 0))) rfl rfl) rfl) ?_
    exact .done (.mk ⟨.same _, .same _, .same _, .same _, .same _, trivial⟩ ⟨.same _, .same _, trivial⟩)
  refine Ok.block ?_
  refine Ok.le (σ' := ⟨[(0, (L 2 e_api_Bind a0)), (1, (L 2 e_api_Raw a1)), (7, (.sref 7)), (8, (.sref 8)), (9, (.v (.int .i64 0)))], [(7, (.rows true 49 2 (([] : List T_api_Raw).map e_api_Raw))), (8, (.rows true 9 1 (([] : List Str).map eS)))]⟩) (.mk ⟨.same _, .same _, .same _, .same _, .same _, trivial⟩ ⟨.same _, .same _, trivial⟩) ?_
  refine Ok.loop (fun m9 σ => ∃ (y7_3 : List T_api_Raw) (y8_4 : List Str) (x0_1 : List T_api_Bind) (x9_2 : Int), σ = ⟨[(0, (L 2 e_api_Bind x0_1)), (1, (L 2 e_api_Raw a1)), (7, (.sref 7)), (8, (.sref 8)), (9, (.v (.int .i64 x9_2)))], [(7, (.rows true 49 2 (y7_3.map e_api_Raw))), (8, (.rows true 9 1 (y8_4.map eS)))]⟩ ∧ watchbillref02_Declare.l0 k a1 m9 y7_3 y8_4 x0_1 x9_2 = some r) k ⟨([] : List T_api_Raw), ([] : List Str), a0, 0, rfl, H⟩ ?_
  rintro m9 σ ⟨y7_3, y8_4, x0_1, x9_2, rfl, H⟩
  cases m9 with
  | zero => exact absurd H (by simp [watchbillref02_Declare.l0])
  | succ m9 =>
    unfold watchbillref02_Declare.l0 at H
    refine Ok.seq ?_
    refine Ok.seq ?_
    refine Ok.region (σ' := ⟨[(0, (L 2 e_api_Bind x0_1)), (1, (L 2 e_api_Raw a1)), (7, (.sref 7)), (8, (.sref 8)), (9, (.v (.int .i64 x9_2))), (18, (.v (.bool (decide (x9_2 < (a1.length : Int))))))], [(7, (.rows true 49 2 (y7_3.map e_api_Raw))), (8, (.rows true 9 1 (y8_4.map eS)))]⟩) ?_ ?_
    · refine OpsOk.cons rfl (.v (VOk.mv (d := (.v (.int .i64 x9_2))) rfl rfl) rfl) ?_
      refine OpsOk.cons rfl (.v (VOk.mv (d := (L 2 e_api_Raw a1)) rfl rfl) rfl) ?_
      refine OpsOk.cons rfl (.v (VOk.lenL (e := e_api_Raw) (xs := a1) rfl Try.underlying46 rfl) rfl) ?_
      refine OpsOk.cons rfl (.v (VOk.arith (op := .lss) (k := .i64) (a := x9_2) (b := (a1.length : Int)) rfl rfl rfl rfl) rfl) ?_
      exact .done (.mk ⟨.same _, .same _, .same _, .same _, .same _, .same _, trivial⟩ ⟨.same _, .same _, trivial⟩)
    refine Ok.test (b := (decide (x9_2 < (a1.length : Int)))) rfl (fun hb37 => ?_) (fun hb37 => ?_)
    · replace H := ifT H hb37
      refine Ok.le (σ' := ⟨[(0, (L 2 e_api_Bind x0_1)), (1, (L 2 e_api_Raw a1)), (7, (.sref 7)), (8, (.sref 8)), (9, (.v (.int .i64 x9_2)))], [(7, (.rows true 49 2 (y7_3.map e_api_Raw))), (8, (.rows true 9 1 (y8_4.map eS)))]⟩) (.mk ⟨.same _, .same _, .same _, .same _, .same _, trivial⟩ ⟨.same _, .same _, trivial⟩) ?_
      refine Ok.skip ?_
      refine Ok.seq ?_
      refine Ok.block ?_
      refine Ok.seq ?_
      obtain ⟨c10, H⟩ := assertE H
      obtain ⟨t11, h12, H⟩ := bindE H
      refine Ok.region (σ' := ⟨[(0, (L 2 e_api_Bind x0_1)), (1, (L 2 e_api_Raw a1)), (7, (.sref 7)), (8, (.sref 8)), (9, (.v (.int .i64 x9_2))), (10, (S t11.1)), (11, (.v (.bool t11.2)))], [(7, (.rows true 49 2 (y7_3.map e_api_Raw))), (8, (.rows true 9 1 (y8_4.map eS)))]⟩) ?_ ?_
      · refine OpsOk.cons rfl (.v (VOk.mv (d := (L 2 e_api_Raw a1)) rfl rfl) rfl) ?_
        refine OpsOk.cons rfl (.v (VOk.mv (d := (.v (.int .i64 x9_2))) rfl rfl) rfl) ?_
        refine OpsOk.cons rfl (.v (VOk.indexL (sz := 2) (e := e_api_Raw) (xs := a1) (i := x9_2) rfl Try.underlying46 sz49 rfl rfl c10) rfl) ?_
        refine OpsOk.cons rfl (.v (VOk.to (VOk.fieldFp rfl Try.underlying49 rfl sz9 rfl) rfl) rfl) ?_
        refine OpsOk.cons rfl (.v (VOk.loadFp (d := (S ((rd a1 x9_2).Name))) rfl Try.underlying9 rfl rfl rfl) rfl) ?_
        refine OpsOk.cons rfl (.g (GOk.call rfl rfl cl34 rfl (watchbillref02_declares.ok h12) rfl) rfl) ?_
        refine OpsOk.cons rfl (.v (VOk.mv (d := (.tup [(S t11.1), (.v (.bool t11.2))])) rfl rfl) rfl) ?_
        refine OpsOk.cons rfl (.v (VOk.extract (d := (S t11.1)) rfl rfl rfl) rfl) ?_
        refine OpsOk.cons rfl (.v (VOk.extract (d := (.v (.bool t11.2))) rfl rfl rfl) rfl) ?_
        refine OpsOk.cons rfl (.v (VOk.asg (d := (S t11.1)) rfl rfl) rfl) ?_
        refine OpsOk.cons rfl (.v (VOk.asg (d := (.v (.bool t11.2))) rfl rfl) rfl) ?_
        exact .done (.mk ⟨.same _, .same _, .same _, .same _, .same _, .same _, .same _, trivial⟩ ⟨.same _, .same _, trivial⟩)
      refine Ok.seq ?_
      refine Ok.seq ?_
      refine Ok.region (σ' := ⟨[(0, (L 2 e_api_Bind x0_1)), (1, (L 2 e_api_Raw a1)), (7, (.sref 7)), (8, (.sref 8)), (9, (.v (.int .i64 x9_2))), (10, (S t11.1)), (31, (.v (.bool (!t11.2))))], [(7, (.rows true 49 2 (y7_3.map e_api_Raw))), (8, (.rows true 9 1 (y8_4.map eS)))]⟩) ?_ ?_
      · refine OpsOk.cons rfl (.v (VOk.mv (d := (.v (.bool t11.2))) rfl rfl) rfl) ?_
        refine OpsOk.cons rfl (.v (VOk.not (b := t11.2) rfl rfl) rfl) ?_
        exact .done (.mk ⟨.same _, .same _, .same _, .same _, .same _, .same _, .same _, trivial⟩ ⟨.same _, .same _, trivial⟩)
      refine Ok.test (b := (!t11.2)) rfl (fun hb36 => ?_) (fun hb36 => ?_)
      · replace H := ifT H hb36
        refine Ok.seq ?_
        obtain ⟨c13, H⟩ := assertE H
        obtain ⟨c14, H⟩ := assertE H
        refine Ok.region (σ' := ⟨[(0, (L 2 e_api_Bind x0_1)), (1, (L 2 e_api_Raw a1)), (7, (.sref 7)), (8, (.sref 8)), (9, (.v (.int .i64 x9_2)))], [(7, (.rows true 49 2 ((y7_3 ++ ([(rd a1 x9_2)] : List T_api_Raw)).map e_api_Raw))), (8, (.rows true 9 1 (y8_4.map eS)))]⟩) ?_ ?_
        · refine OpsOk.cons rfl (.v (VOk.mv (d := (.sref 7)) rfl rfl) rfl) ?_
          refine OpsOk.cons rfl (.v (VOk.mv (d := (L 2 e_api_Raw a1)) rfl rfl) rfl) ?_
          refine OpsOk.cons rfl (.v (VOk.mv (d := (.v (.int .i64 x9_2))) rfl rfl) rfl) ?_
          refine OpsOk.cons rfl (.v (VOk.indexL (sz := 2) (e := e_api_Raw) (xs := a1) (i := x9_2) rfl Try.underlying46 sz49 rfl rfl c13) rfl) ?_
          refine OpsOk.cons rfl (.v (VOk.to (d' := (.agg (e_api_Raw (rd a1 x9_2)))) (.loadFpAgg rfl Try.underlying49 rfl sz49 rfl rfl) rfl) rfl) ?_
          refine OpsOk.cons rfl (.g (GOk.to (d' := (L 2 e_api_Raw ([(rd a1 x9_2)] : List T_api_Raw))) (GOk.lit rfl Try.underlying46 sz49 zs49 rfl rfl rfl rfl) rfl) rfl) ?_
          refine OpsOk.cons rfl (OpOk.appendL (e := e_api_Raw) (xs := y7_3) (ys := ([(rd a1 x9_2)] : List T_api_Raw)) rfl Try.underlying46 elt49 rfl rfl rfl c14 rfl) ?_
          refine OpsOk.cons rfl (.v (VOk.asg (d := (.sref 7)) rfl rfl) rfl) ?_
          exact .done (.mk ⟨.same _, .same _, .same _, .same _, .same _, trivial⟩ ⟨.same _, .same _, trivial⟩)
        refine Ok.le (σ' := ⟨[(0, (L 2 e_api_Bind x0_1)), (1, (L 2 e_api_Raw a1)), (7, (.sref 7)), (8, (.sref 8)), (9, (.v (.int .i64 x9_2)))], [(7, (.rows true 49 2 ((y7_3 ++ ([(rd a1 x9_2)] : List T_api_Raw)).map e_api_Raw))), (8, (.rows true 9 1 (y8_4.map eS)))]⟩) (.mk ⟨.same _, .same _, .same _, .same _, .same _, trivial⟩ ⟨.same _, .same _, trivial⟩) ?_
        refine Ok.exit ?_
        refine Ok.region (σ' := ⟨[(0, (L 2 e_api_Bind x0_1)), (1, (L 2 e_api_Raw a1)), (7, (.sref 7)), (8, (.sref 8)), (9, (.v (.int .i64 (IntKind.i64.wrap (x9_2 + 1)))))], [(7, (.rows true 49 2 ((y7_3 ++ ([(rd a1 x9_2)] : List T_api_Raw)).map e_api_Raw))), (8, (.rows true 9 1 (y8_4.map eS)))]⟩) ?_ ?_
        · refine OpsOk.cons rfl (.v (VOk.mv (d := (.v (.int .i64 x9_2))) rfl rfl) rfl) ?_
          refine OpsOk.cons rfl (.v (VOk.arith (op := .add) (k := .i64) (a := x9_2) (b := 1) rfl rfl rfl rfl) rfl) ?_
          refine OpsOk.cons rfl (.v (VOk.asg (d := (.v (.int .i64 (IntKind.i64.wrap (x9_2 + 1))))) rfl rfl) rfl) ?_
          exact .done (.mk ⟨.same _, .same _, .same _, .same _, .same _, trivial⟩ ⟨.same _, .same _, trivial⟩)
        exact ⟨m9, Nat.lt_succ_self m9, (y7_3 ++ ([(rd a1 x9_2)] : List T_api_Raw)), y8_4, x0_1, (IntKind.i64.wrap (x9_2 + 1)), rfl, H⟩
      · replace H := ifF H hb36
        refine Ok.le (σ' := ⟨[(0, (L 2 e_api_Bind x0_1)), (1, (L 2 e_api_Raw a1)), (7, (.sref 7)), (8, (.sref 8)), (9, (.v (.int .i64 x9_2))), (10, (S t11.1))], [(7, (.rows true 49 2 (y7_3.map e_api_Raw))), (8, (.rows true 9 1 (y8_4.map eS)))]⟩) (.mk ⟨.same _, .same _, .same _, .same _, .same _, .same _, trivial⟩ ⟨.same _, .same _, trivial⟩) ?_
        refine Ok.skip ?_
        refine Ok.seq ?_
        refine Ok.seq ?_
        obtain ⟨c15, H⟩ := assertE H
        obtain ⟨t17, h18, H⟩ := bindE H
        refine Ok.region (σ' := ⟨[(0, (L 2 e_api_Bind x0_1)), (1, (L 2 e_api_Raw a1)), (7, (.sref 7)), (8, (.sref 8)), (9, (.v (.int .i64 x9_2))), (10, (S t11.1)), (49, (.v (.bool ((!(((rd a1 x9_2).Name) == ([120, 109, 108, 110, 115] : Str))) && (!t17)))))], [(7, (.rows true 49 2 (y7_3.map e_api_Raw))), (8, (.rows true 9 1 (y8_4.map eS)))]⟩) ?_ ?_
        · refine OpsOk.cons rfl (.v (VOk.mv (d := (L 2 e_api_Raw a1)) rfl rfl) rfl) ?_
          refine OpsOk.cons rfl (.v (VOk.mv (d := (.v (.int .i64 x9_2))) rfl rfl) rfl) ?_
          refine OpsOk.cons rfl (.v (VOk.indexL (sz := 2) (e := e_api_Raw) (xs := a1) (i := x9_2) rfl Try.underlying46 sz49 rfl rfl c15) rfl) ?_
          refine OpsOk.cons rfl (.v (VOk.to (VOk.fieldFp rfl Try.underlying49 rfl sz9 rfl) rfl) rfl) ?_
          refine OpsOk.cons rfl (.v (VOk.loadFp (d := (S ((rd a1 x9_2).Name))) rfl Try.underlying9 rfl rfl rfl) rfl) ?_
          refine OpsOk.cons rfl (.v (VOk.strOp (op := .neq) (a := (rd a1 x9_2).Name) (b := ([120, 109, 108, 110, 115] : Str)) rfl rfl rfl rfl) rfl) ?_
          refine OpsOk.cons rfl (.v (VOk.mv (d := (.v (.bool (!(((rd a1 x9_2).Name) == ([120, 109, 108, 110, 115] : Str)))))) rfl rfl) rfl) ?_
          refine OpsOk.consI rfl rfl rfl (.one rfl) rfl (fun hw16 => (VOk.g (VOk.mv (d := (S t11.1)) rfl rfl))) ?_
          refine OpsOk.consI rfl rfl rfl (.one rfl) rfl (fun hw16 => (GOk.fr (fr' := [(46, (S t11.1))]) ⟨DLe.of_eq (cT hw16).symm, trivial⟩ (GOk.call rfl rfl cl29 rfl (watchbillref01_Name.ok (ifT h18 hw16)) rfl))) ?_
          refine OpsOk.consI rfl rfl rfl (.one rfl) rfl (fun hw16 => (GOk.fr (fr' := [(47, (.v (.bool t17)))]) ⟨DLe.of_eq (cT hw16).symm, trivial⟩ (VOk.g (VOk.not (b := t17) rfl rfl)))) ?_
          refine OpsOk.cons rfl (.v (VOk.to (VOk.pickI (b := (!(((rd a1 x9_2).Name) == ([120, 109, 108, 110, 115] : Str)))) (p := (!t17)) (q := false) rfl rfl (fun hp19 => (cT (t_beq hp19))) (fun hp19 => rfl)) (pickAnd (!(((rd a1 x9_2).Name) == ([120, 109, 108, 110, 115] : Str))) (!t17))) rfl) ?_
          exact .done (.mk ⟨.same _, .same _, .same _, .same _, .same _, .same _, .same _, trivial⟩ ⟨.same _, .same _, trivial⟩)
        refine Ok.test (b := ((!(((rd a1 x9_2).Name) == ([120, 109, 108, 110, 115] : Str))) && (!t17))) rfl (fun hb35 => ?_) (fun hb35 => ?_)
        · replace H := ifT H hb35
          refine Ok.seq ?_
          refine Ok.region (σ' := ⟨[(4, (.v (.slice none 0 0))), (5, (.v (.slice none 0 0))), (6, (.v (.int .i64 12)))], []⟩) ?_ ?_
          · refine OpsOk.cons rfl (.v (VOk.asg (d := (.v (.slice none 0 0))) rfl rfl) rfl) ?_
            refine OpsOk.cons rfl (.v (VOk.asg (d := (.v (.slice none 0 0))) rfl rfl) rfl) ?_
            refine OpsOk.cons rfl (.v (VOk.asg (d := (.v (.int .i64 12))) rfl rfl) rfl) ?_
            exact .done (.mk ⟨.same _, .same _, .same _, trivial⟩ trivial)
          refine Ok.le (σ' := ⟨[(4, (L 2 e_api_Bind ([] : List T_api_Bind))), (5, (L 2 e_api_Raw ([] : List T_api_Raw))), (6, (.v (.int .i64 12)))], []⟩) (.mk ⟨.nil _, .nil _, .same _, trivial⟩ trivial) ?_
          refine Ok.ret ?_
          obtain rfl := Option.some.inj H
          exact ⟨.inl rfl, ⟨_, (.cons (.tmp rfl) (.cons (.tmp rfl) (.cons (.tmp rfl) .nil))), rfl⟩, trivial⟩
        · replace H := ifF H hb35
          refine Ok.le (σ' := ⟨[(0, (L 2 e_api_Bind x0_1)), (1, (L 2 e_api_Raw a1)), (7, (.sref 7)), (8, (.sref 8)), (9, (.v (.int .i64 x9_2))), (10, (S t11.1))], [(7, (.rows true 49 2 (y7_3.map e_api_Raw))), (8, (.rows true 9 1 (y8_4.map eS)))]⟩) (.mk ⟨.same _, .same _, .same _, .same _, .same _, .same _, trivial⟩ ⟨.same _, .same _, trivial⟩) ?_
          refine Ok.skip ?_
          refine Ok.seq ?_
          refine Ok.seq ?_
          refine Ok.region (σ' := ⟨[(0, (L 2 e_api_Bind x0_1)), (1, (L 2 e_api_Raw a1)), (7, (.sref 7)), (8, (.sref 8)), (9, (.v (.int .i64 x9_2))), (10, (S t11.1)), (12, (.v (.int .i64 0)))], [(7, (.rows true 49 2 (y7_3.map e_api_Raw))), (8, (.rows true 9 1 (y8_4.map eS)))]⟩) ?_ ?_
          · refine OpsOk.cons rfl (.v (VOk.asg (d := (.v (.int .i64 0))) rfl rfl) rfl) ?_
            exact .done (.mk ⟨.same _, .same _, .same _, .same _, .same _, .same _, .same _, trivial⟩ ⟨.same _, .same _, trivial⟩)
          refine Ok.block ?_
          refine Ok.le (σ' := ⟨[(0, (L 2 e_api_Bind x0_1)), (1, (L 2 e_api_Raw a1)), (7, (.sref 7)), (8, (.sref 8)), (9, (.v (.int .i64 x9_2))), (10, (S t11.1)), (12, (.v (.int .i64 0)))], [(7, (.rows true 49 2 (y7_3.map e_api_Raw))), (8, (.rows true 9 1 (y8_4.map eS)))]⟩) (.mk ⟨.same _, .same _, .same _, .same _, .same _, .same _, .same _, trivial⟩ ⟨.same _, .same _, trivial⟩) ?_
          refine Ok.loop (fun m26 σ => ∃ (y7_21 : List T_api_Raw) (y8_22 : List Str) (x12_20 : Int), σ = ⟨[(0, (L 2 e_api_Bind x0_1)), (1, (L 2 e_api_Raw a1)), (7, (.sref 7)), (8, (.sref 8)), (9, (.v (.int .i64 x9_2))), (10, (S t11.1)), (12, (.v (.int .i64 x12_20)))], [(7, (.rows true 49 2 (y7_21.map e_api_Raw))), (8, (.rows true 9 1 (y8_22.map eS)))]⟩ ∧ watchbillref02_Declare.l1 k (watchbillref02_Declare.l0 k a1 m9) a1 x0_1 x9_2 t11 m26 y7_21 y8_22 x12_20 = some r) k ⟨y7_3, y8_4, 0, rfl, H⟩ ?_
          rintro m26 σ ⟨y7_21, y8_22, x12_20, rfl, H⟩
          cases m26 with
          | zero => exact absurd H (by simp [watchbillref02_Declare.l1])
          | succ m26 =>
            unfold watchbillref02_Declare.l1 at H
            refine Ok.seq ?_
            refine Ok.seq ?_
            refine Ok.region (σ' := ⟨[(0, (L 2 e_api_Bind x0_1)), (1, (L 2 e_api_Raw a1)), (7, (.sref 7)), (8, (.sref 8)), (9, (.v (.int .i64 x9_2))), (10, (S t11.1)), (12, (.v (.int .i64 x12_20))), (53, (.v (.bool (decide (x12_20 < (y8_22.length : Int))))))], [(7, (.rows true 49 2 (y7_21.map e_api_Raw))), (8, (.rows true 9 1 (y8_22.map eS)))]⟩) ?_ ?_
            · refine OpsOk.cons rfl (.v (VOk.mv (d := (.v (.int .i64 x12_20))) rfl rfl) rfl) ?_
              refine OpsOk.cons rfl (.v (VOk.mv (d := (.sref 8)) rfl rfl) rfl) ?_
              refine OpsOk.cons rfl (.v (VOk.lenTL (e := eS) (xs := y8_22) rfl Try.underlying70 rfl rfl) rfl) ?_
              refine OpsOk.cons rfl (.v (VOk.arith (op := .lss) (k := .i64) (a := x12_20) (b := (y8_22.length : Int)) rfl rfl rfl rfl) rfl) ?_
              exact .done (.mk ⟨.same _, .same _, .same _, .same _, .same _, .same _, .same _, .same _, trivial⟩ ⟨.same _, .same _, trivial⟩)
            refine Ok.test (b := (decide (x12_20 < (y8_22.length : Int)))) rfl (fun hb34 => ?_) (fun hb34 => ?_)
            · replace H := ifT H hb34
              refine Ok.le (σ' := ⟨[(0, (L 2 e_api_Bind x0_1)), (1, (L 2 e_api_Raw a1)), (7, (.sref 7)), (8, (.sref 8)), (9, (.v (.int .i64 x9_2))), (10, (S t11.1)), (12, (.v (.int .i64 x12_20)))], [(7, (.rows true 49 2 (y7_21.map e_api_Raw))), (8, (.rows true 9 1 (y8_22.map eS)))]⟩) (.mk ⟨.same _, .same _, .same _, .same _, .same _, .same _, .same _, trivial⟩ ⟨.same _, .same _, trivial⟩) ?_
              refine Ok.skip ?_
              refine Ok.seq ?_
              refine Ok.block ?_
              refine Ok.seq ?_
              obtain ⟨c27, H⟩ := assertE H
              refine Ok.region (σ' := ⟨[(0, (L 2 e_api_Bind x0_1)), (1, (L 2 e_api_Raw a1)), (7, (.sref 7)), (8, (.sref 8)), (9, (.v (.int .i64 x9_2))), (10, (S t11.1)), (12, (.v (.int .i64 x12_20))), (61, (.v (.bool ((rd y8_22 x12_20) == t11.1))))], [(7, (.rows true 49 2 (y7_21.map e_api_Raw))), (8, (.rows true 9 1 (y8_22.map eS)))]⟩) ?_ ?_
              · refine OpsOk.cons rfl (.v (VOk.mv (d := (.sref 8)) rfl rfl) rfl) ?_
                refine OpsOk.cons rfl (.v (VOk.mv (d := (.v (.int .i64 x12_20))) rfl rfl) rfl) ?_
                refine OpsOk.cons rfl (.v (VOk.indexTL (e := eS) (xs := y8_22) (i := x12_20) rfl Try.underlying70 sz9 rfl rfl rfl c27) rfl) ?_
                refine OpsOk.cons rfl (.v (VOk.loadE (d := (S (rd y8_22 x12_20))) rfl Try.underlying9 rfl rfl rfl (row_rd c27) rfl) rfl) ?_
                refine OpsOk.cons rfl (.v (VOk.mv (d := (S t11.1)) rfl rfl) rfl) ?_
                refine OpsOk.cons rfl (.v (VOk.strOp (op := .eql) (a := (rd y8_22 x12_20)) (b := t11.1) rfl rfl rfl rfl) rfl) ?_
                exact .done (.mk ⟨.same _, .same _, .same _, .same _, .same _, .same _, .same _, .same _, trivial⟩ ⟨.same _, .same _, trivial⟩)
              refine Ok.test (b := ((rd y8_22 x12_20) == t11.1)) rfl (fun hb28 => ?_) (fun hb28 => ?_)
              · replace H := ifT H hb28
                refine Ok.seq ?_
                refine Ok.region (σ' := ⟨[(4, (.v (.slice none 0 0))), (5, (.v (.slice none 0 0))), (6, (.v (.int .i64 14)))], []⟩) ?_ ?_
                · refine OpsOk.cons rfl (.v (VOk.asg (d := (.v (.slice none 0 0))) rfl rfl) rfl) ?_
                  refine OpsOk.cons rfl (.v (VOk.asg (d := (.v (.slice none 0 0))) rfl rfl) rfl) ?_
                  refine OpsOk.cons rfl (.v (VOk.asg (d := (.v (.int .i64 14))) rfl rfl) rfl) ?_
                  exact .done (.mk ⟨.same _, .same _, .same _, trivial⟩ trivial)
                refine Ok.le (σ' := ⟨[(4, (L 2 e_api_Bind ([] : List T_api_Bind))), (5, (L 2 e_api_Raw ([] : List T_api_Raw))), (6, (.v (.int .i64 14)))], []⟩) (.mk ⟨.nil _, .nil _, .same _, trivial⟩ trivial) ?_
                refine Ok.ret ?_
                obtain rfl := Option.some.inj H
                exact ⟨.inl rfl, ⟨_, (.cons (.tmp rfl) (.cons (.tmp rfl) (.cons (.tmp rfl) .nil))), rfl⟩, trivial⟩
              · replace H := ifF H hb28
                refine Ok.le (σ' := ⟨[(0, (L 2 e_api_Bind x0_1)), (1, (L 2 e_api_Raw a1)), (7, (.sref 7)), (8, (.sref 8)), (9, (.v (.int .i64 x9_2))), (10, (S t11.1)), (12, (.v (.int .i64 x12_20)))], [(7, (.rows true 49 2 (y7_21.map e_api_Raw))), (8, (.rows true 9 1 (y8_22.map eS)))]⟩) (.mk ⟨.same _, .same _, .same _, .same _, .same _, .same _, .same _, trivial⟩ ⟨.same _, .same _, trivial⟩) ?_
                refine Ok.skip ?_
                refine Ok.region (σ' := ⟨[(0, (L 2 e_api_Bind x0_1)), (1, (L 2 e_api_Raw a1)), (7, (.sref 7)), (8, (.sref 8)), (9, (.v (.int .i64 x9_2))), (10, (S t11.1)), (12, (.v (.int .i64 (IntKind.i64.wrap (x12_20 + 1)))))], [(7, (.rows true 49 2 (y7_21.map e_api_Raw))), (8, (.rows true 9 1 (y8_22.map eS)))]⟩) ?_ ?_
                · refine OpsOk.cons rfl (.v (VOk.mv (d := (.v (.int .i64 x12_20))) rfl rfl) rfl) ?_
                  refine OpsOk.cons rfl (.v (VOk.arith (op := .add) (k := .i64) (a := x12_20) (b := 1) rfl rfl rfl rfl) rfl) ?_
                  refine OpsOk.cons rfl (.v (VOk.asg (d := (.v (.int .i64 (IntKind.i64.wrap (x12_20 + 1))))) rfl rfl) rfl) ?_
                  exact .done (.mk ⟨.same _, .same _, .same _, .same _, .same _, .same _, .same _, trivial⟩ ⟨.same _, .same _, trivial⟩)
                exact ⟨m26, Nat.lt_succ_self m26, y7_21, y8_22, (IntKind.i64.wrap (x12_20 + 1)), rfl, H⟩
            · replace H := ifF H hb34
              refine Ok.le (σ' := ⟨[(0, (L 2 e_api_Bind x0_1)), (1, (L 2 e_api_Raw a1)), (7, (.sref 7)), (8, (.sref 8)), (9, (.v (.int .i64 x9_2))), (10, (S t11.1))], [(7, (.rows true 49 2 (y7_21.map e_api_Raw))), (8, (.rows true 9 1 (y8_22.map eS)))]⟩) (.mk ⟨.same _, .same _, .same _, .same _, .same _, .same _, trivial⟩ ⟨.same _, .same _, trivial⟩) ?_
              refine Ok.exit ?_
              refine Ok.seq ?_
              obtain ⟨c29, H⟩ := assertE H
              refine Ok.region (σ' := ⟨[(0, (L 2 e_api_Bind x0_1)), (1, (L 2 e_api_Raw a1)), (7, (.sref 7)), (8, (.sref 8)), (9, (.v (.int .i64 x9_2))), (10, (S t11.1))], [(7, (.rows true 49 2 (y7_21.map e_api_Raw))), (8, (.rows true 9 1 ((y8_22 ++ ([t11.1] : List Str)).map eS)))]⟩) ?_ ?_
              · refine OpsOk.cons rfl (.v (VOk.mv (d := (.sref 8)) rfl rfl) rfl) ?_
                refine OpsOk.cons rfl (.v (VOk.mv (d := (S t11.1)) rfl rfl) rfl) ?_
                refine OpsOk.cons rfl (.g (GOk.to (d' := (L 1 eS ([t11.1] : List Str))) (GOk.lit rfl Try.underlying70 sz9 zs9 rfl rfl rfl rfl) rfl) rfl) ?_
                refine OpsOk.cons rfl (OpOk.appendL (e := eS) (xs := y8_22) (ys := ([t11.1] : List Str)) rfl Try.underlying70 elt9 rfl rfl rfl c29 rfl) ?_
                refine OpsOk.cons rfl (.v (VOk.asg (d := (.sref 8)) rfl rfl) rfl) ?_
                exact .done (.mk ⟨.same _, .same _, .same _, .same _, .same _, .same _, trivial⟩ ⟨.same _, .same _, trivial⟩)
              refine Ok.seq ?_
              obtain ⟨c30, H⟩ := assertE H
              obtain ⟨t31, h32, H⟩ := bindE H
              refine Ok.region (σ' := ⟨[(1, (L 2 e_api_Raw a1)), (7, (.sref 7)), (8, (.sref 8)), (9, (.v (.int .i64 x9_2))), (13, (L 2 e_api_Bind t31.1)), (14, (.v (.int .i64 t31.2)))], [(7, (.rows true 49 2 (y7_21.map e_api_Raw))), (8, (.rows true 9 1 ((y8_22 ++ ([t11.1] : List Str)).map eS)))]⟩) ?_ ?_
              · refine OpsOk.cons rfl (.v (VOk.mv (d := (L 2 e_api_Bind x0_1)) rfl rfl) rfl) ?_
                refine OpsOk.cons rfl (.v (VOk.mv (d := (S t11.1)) rfl rfl) rfl) ?_
                refine OpsOk.cons rfl (.v (VOk.mv (d := (L 2 e_api_Raw a1)) rfl rfl) rfl) ?_
                refine OpsOk.cons rfl (.v (VOk.mv (d := (.v (.int .i64 x9_2))) rfl rfl) rfl) ?_
                refine OpsOk.cons rfl (.v (VOk.indexL (sz := 2) (e := e_api_Raw) (xs := a1) (i := x9_2) rfl Try.underlying46 sz49 rfl rfl c30) rfl) ?_
                refine OpsOk.cons rfl (.v (VOk.to (VOk.fieldFp rfl Try.underlying49 rfl sz9 rfl) rfl) rfl) ?_
                refine OpsOk.cons rfl (.v (VOk.loadFp (d := (S ((rd a1 x9_2).Value))) rfl Try.underlying9 rfl rfl rfl) rfl) ?_
                refine OpsOk.cons rfl (.g (GOk.call rfl rfl cl14 rfl (watchbillref02_Add.ok h32) rfl) rfl) ?_
                refine OpsOk.cons rfl (.v (VOk.mv (d := (.tup [(L 2 e_api_Bind t31.1), (.v (.int .i64 t31.2))])) rfl rfl) rfl) ?_
                refine OpsOk.cons rfl (.v (VOk.extract (d := (L 2 e_api_Bind t31.1)) rfl rfl rfl) rfl) ?_
                refine OpsOk.cons rfl (.v (VOk.extract (d := (.v (.int .i64 t31.2))) rfl rfl rfl) rfl) ?_
                refine OpsOk.cons rfl (.v (VOk.asg (d := (L 2 e_api_Bind t31.1)) rfl rfl) rfl) ?_
                refine OpsOk.cons rfl (.v (VOk.asg (d := (.v (.int .i64 t31.2))) rfl rfl) rfl) ?_
                exact .done (.mk ⟨.same _, .same _, .same _, .same _, .same _, .same _, trivial⟩ ⟨.same _, .same _, trivial⟩)
              refine Ok.seq ?_
              refine Ok.seq ?_
              refine Ok.region (σ' := ⟨[(1, (L 2 e_api_Raw a1)), (7, (.sref 7)), (8, (.sref 8)), (9, (.v (.int .i64 x9_2))), (13, (L 2 e_api_Bind t31.1)), (14, (.v (.int .i64 t31.2))), (78, (.v (.bool (t31.2 != 0))))], [(7, (.rows true 49 2 (y7_21.map e_api_Raw))), (8, (.rows true 9 1 ((y8_22 ++ ([t11.1] : List Str)).map eS)))]⟩) ?_ ?_
              · refine OpsOk.cons rfl (.v (VOk.mv (d := (.v (.int .i64 t31.2))) rfl rfl) rfl) ?_
                refine OpsOk.cons rfl (.v (VOk.arith (op := .neq) (k := .i64) (a := t31.2) (b := 0) rfl rfl rfl rfl) rfl) ?_
                exact .done (.mk ⟨.same _, .same _, .same _, .same _, .same _, .same _, .same _, trivial⟩ ⟨.same _, .same _, trivial⟩)
              refine Ok.test (b := (t31.2 != 0)) rfl (fun hb33 => ?_) (fun hb33 => ?_)
              · replace H := ifT H hb33
                refine Ok.seq ?_
                refine Ok.region (σ' := ⟨[(4, (.v (.slice none 0 0))), (5, (.v (.slice none 0 0))), (6, (.v (.int .i64 t31.2)))], []⟩) ?_ ?_
                · refine OpsOk.cons rfl (.v (VOk.mv (d := (.v (.int .i64 t31.2))) rfl rfl) rfl) ?_
                  refine OpsOk.cons rfl (.v (VOk.asg (d := (.v (.slice none 0 0))) rfl rfl) rfl) ?_
                  refine OpsOk.cons rfl (.v (VOk.asg (d := (.v (.slice none 0 0))) rfl rfl) rfl) ?_
                  refine OpsOk.cons rfl (.v (VOk.asg (d := (.v (.int .i64 t31.2))) rfl rfl) rfl) ?_
                  exact .done (.mk ⟨.same _, .same _, .same _, trivial⟩ trivial)
                refine Ok.le (σ' := ⟨[(4, (L 2 e_api_Bind ([] : List T_api_Bind))), (5, (L 2 e_api_Raw ([] : List T_api_Raw))), (6, (.v (.int .i64 t31.2)))], []⟩) (.mk ⟨.nil _, .nil _, .same _, trivial⟩ trivial) ?_
                refine Ok.ret ?_
                obtain rfl := Option.some.inj H
                exact ⟨.inl rfl, ⟨_, (.cons (.tmp rfl) (.cons (.tmp rfl) (.cons (.tmp rfl) .nil))), rfl⟩, trivial⟩
              · replace H := ifF H hb33
                refine Ok.le (σ' := ⟨[(1, (L 2 e_api_Raw a1)), (7, (.sref 7)), (8, (.sref 8)), (9, (.v (.int .i64 x9_2))), (13, (L 2 e_api_Bind t31.1))], [(7, (.rows true 49 2 (y7_21.map e_api_Raw))), (8, (.rows true 9 1 ((y8_22 ++ ([t11.1] : List Str)).map eS)))]⟩) (.mk ⟨.same _, .same _, .same _, .same _, .same _, trivial⟩ ⟨.same _, .same _, trivial⟩) ?_
                refine Ok.skip ?_
                refine Ok.region (σ' := ⟨[(0, (L 2 e_api_Bind t31.1)), (1, (L 2 e_api_Raw a1)), (7, (.sref 7)), (8, (.sref 8)), (9, (.v (.int .i64 x9_2)))], [(7, (.rows true 49 2 (y7_21.map e_api_Raw))), (8, (.rows true 9 1 ((y8_22 ++ ([t11.1] : List Str)).map eS)))]⟩) ?_ ?_
                · refine OpsOk.cons rfl (.v (VOk.mv (d := (L 2 e_api_Bind t31.1)) rfl rfl) rfl) ?_
                  refine OpsOk.cons rfl (.v (VOk.asg (d := (L 2 e_api_Bind t31.1)) rfl rfl) rfl) ?_
                  exact .done (.mk ⟨.same _, .same _, .same _, .same _, .same _, trivial⟩ ⟨.same _, .same _, trivial⟩)
                refine Ok.region (σ' := ⟨[(0, (L 2 e_api_Bind t31.1)), (1, (L 2 e_api_Raw a1)), (7, (.sref 7)), (8, (.sref 8)), (9, (.v (.int .i64 (IntKind.i64.wrap (x9_2 + 1)))))], [(7, (.rows true 49 2 (y7_21.map e_api_Raw))), (8, (.rows true 9 1 ((y8_22 ++ ([t11.1] : List Str)).map eS)))]⟩) ?_ ?_
                · refine OpsOk.cons rfl (.v (VOk.mv (d := (.v (.int .i64 x9_2))) rfl rfl) rfl) ?_
                  refine OpsOk.cons rfl (.v (VOk.arith (op := .add) (k := .i64) (a := x9_2) (b := 1) rfl rfl rfl rfl) rfl) ?_
                  refine OpsOk.cons rfl (.v (VOk.asg (d := (.v (.int .i64 (IntKind.i64.wrap (x9_2 + 1))))) rfl rfl) rfl) ?_
                  exact .done (.mk ⟨.same _, .same _, .same _, .same _, .same _, trivial⟩ ⟨.same _, .same _, trivial⟩)
                exact ⟨m9, Nat.lt_succ_self m9, y7_21, (y8_22 ++ ([t11.1] : List Str)), t31.1, (IntKind.i64.wrap (x9_2 + 1)), rfl, H⟩
    · replace H := ifF H hb37
      refine Ok.le (σ' := ⟨[(0, (L 2 e_api_Bind x0_1)), (7, (.sref 7))], [(7, (.rows true 49 2 (y7_3.map e_api_Raw)))]⟩) (.mk ⟨.same _, .same _, trivial⟩ ⟨.same _, trivial⟩) ?_
      refine Ok.exit ?_
      refine Ok.seq ?_
      refine Ok.region (σ' := ⟨[(4, (L 2 e_api_Bind x0_1)), (5, (.sref 7)), (6, (.v (.int .i64 0)))], [(7, (.rows true 49 2 (y7_3.map e_api_Raw)))]⟩) ?_ ?_
      · refine OpsOk.cons rfl (.v (VOk.mv (d := (L 2 e_api_Bind x0_1)) rfl rfl) rfl) ?_
        refine OpsOk.cons rfl (.v (VOk.mv (d := (.sref 7)) rfl rfl) rfl) ?_
        refine OpsOk.cons rfl (.v (VOk.asg (d := (L 2 e_api_Bind x0_1)) rfl rfl) rfl) ?_
        refine OpsOk.cons rfl (.v (VOk.asg (d := (.sref 7)) rfl rfl) rfl) ?_
        refine OpsOk.cons rfl (.v (VOk.asg (d := (.v (.int .i64 0))) rfl rfl) rfl) ?_
        exact .done (.mk ⟨.same _, .same _, .same _, trivial⟩ ⟨.same _, trivial⟩)
      refine Ok.frzL 7 (e := e_api_Raw) (xs := y7_3) rfl ?_
      refine Ok.le (σ' := ⟨[(4, (L 2 e_api_Bind x0_1)), (5, (L 2 e_api_Raw y7_3)), (6, (.v (.int .i64 0)))], []⟩) (.mk ⟨.same _, .same _, .same _, trivial⟩ trivial) ?_
      refine Ok.ret ?_
      obtain rfl := Option.some.inj H
      exact ⟨.inl rfl, ⟨_, (.cons (.tmp rfl) (.cons (.tmp rfl) (.cons (.tmp rfl) .nil))), rfl⟩, trivial⟩

/-! watchbill/qname.Attrs: function 21 -/
def qname_Attrs.l0 (k : Nat) (a0 : List T_api_Bind) (a1 : List T_api_Raw) : Nat → List (T_api_Name × Int) → List T_api_Attr → Int → Option ((List T_api_Attr) × Int)
  | 0, _, _, _ => none
  | m7 + 1, y12_3, y6_2, x15_1 => (if (decide (x15_1 < (a1.length : Int))) = true then (if (0 : Int) ≤ x15_1 ∧ x15_1 < (a1.length : Int) then ((qname_Resolve k a0 ((rd a1 x15_1).Name) true).bind fun (t9 : T_api_Name × Int) => (if (t9.2 != 0) = true then some (([] : List T_api_Attr), t9.2) else (if (decide ((lkm keq40 0 (ptm (enm keq40 0 y12_3 t9.1) (ixm keq40 y12_3 t9.1) (IntKind.i64.wrap ((lkm keq40 0 y12_3 t9.1) + 1))) t9.1) > 1)) = true then some (([] : List T_api_Attr), 14) else (if (y6_2.length + ([(T_api_Attr.mk (T_api_Name.mk t9.1.Space t9.1.Local) ((rd a1 x15_1).Value))] : List T_api_Attr).length) * 48 ≤ 140737488355328 then qname_Attrs.l0 k a0 a1 m7 (ptm (enm keq40 0 y12_3 t9.1) (ixm keq40 y12_3 t9.1) (IntKind.i64.wrap ((lkm keq40 0 y12_3 t9.1) + 1))) (y6_2 ++ ([(T_api_Attr.mk (T_api_Name.mk t9.1.Space t9.1.Local) ((rd a1 x15_1).Value))] : List T_api_Attr)) (IntKind.i64.wrap (x15_1 + 1)) else none)))) else none) else some (y6_2, 0))
def qname_Attrs (k : Nat) (a0 : List T_api_Bind) (a1 : List T_api_Raw) : Option ((List T_api_Attr) × Int) := qname_Attrs.l0 k a0 a1 k ([] : List (T_api_Name × Int)) ([] : List T_api_Attr) 0
theorem qname_Attrs.ok {k : Nat} {a0 : List T_api_Bind} {a1 : List T_api_Raw} {r : (List T_api_Attr) × Int} (H : qname_Attrs k a0 a1 = some r) : Vx.Fn Try.prog 21 [(L 2 e_api_Bind a0), (L 2 e_api_Raw a1)] [] (.tup [(L 3 e_api_Attr r.1), (.v (.int .i64 r.2))]) [] := by
  unfold qname_Attrs at H
  refine Vx.Fn.of_okR Try.func21 rfl (Nat.le_of_ble_eq_true rfl) ?_
  refine Ok.seq ?_
  refine Ok.region (σ' := ⟨[(0, (L 2 e_api_Bind a0)), (1, (L 2 e_api_Raw a1))], []⟩) ?_ ?_
  · refine OpsOk.cons rfl (.v (VOk.asg (d := (.v (.slice none 0 0))) rfl rfl) rfl) ?_
    refine OpsOk.cons rfl (.v (VOk.asg (d := (.v (.int .i64 0))) rfl rfl) rfl) ?_
    exact .done (.mk ⟨.same _, .same _, trivial⟩ trivial)
  refine Ok.seq ?_
  refine Ok.region (σ' := ⟨[(0, (L 2 e_api_Bind a0)), (1, (L 2 e_api_Raw a1)), (6, (.sref 6))], [(6, (.rows true 54 3 (([] : List T_api_Attr).map e_api_Attr)))]⟩) ?_ ?_
  · refine OpsOk.cons rfl (.nilT 6 54 3 (.inl rfl) rfl rfl) ?_
    exact .done (.mk ⟨.same _, .same _, .same _, trivial⟩ ⟨.same _, trivial⟩)
  refine Ok.seq ?_
  refine Ok.region (σ' := ⟨[(0, (L 2 e_api_Bind a0)), (1, (L 2 e_api_Raw a1)), (6, (.sref 6)), (7, (.mref 12))], [(6, (.rows true 54 3 (([] : List T_api_Attr).map e_api_Attr))), (12, (.map (List.map (fun p => ((fun a => D.agg (e_api_Name a)) p.1, D.v ((Value.int .i64) p.2))) ([] : List (T_api_Name × Int)))))]⟩) ?_ ?_
  · refine OpsOk.cons rfl (OpOk.mapNew 12 rfl rfl) ?_
    refine OpsOk.cons rfl (.v (VOk.asg (d := (.mref 12)) rfl rfl) rfl) ?_
    exact .done (.mk ⟨.same _, .same _, .same _, .same _, trivial⟩ ⟨.same _, .same _, trivial⟩)
  refine Ok.seq ?_
  refine Ok.seq ?_
  refine Ok.region (σ' := ⟨[(0, (L 2 e_api_Bind a0)), (6, (.sref 6)), (7, (.mref 12)), (13, (L 2 e_api_Raw a1)), (14, (.v (.int .i64 (a1.length : Int)))), (15, (.v (.int .i64 0)))], [(6, (.rows true 54 3 (([] : List T_api_Attr).map e_api_Attr))), (12, (.map (List.map (fun p => ((fun a => D.agg (e_api_Name a)) p.1, D.v ((Value.int .i64) p.2))) ([] : List (T_api_Name × Int)))))]⟩) ?_ ?_
  · refine OpsOk.cons rfl (.v (VOk.mv (d := (L 2 e_api_Raw a1)) rfl rfl) rfl) ?_
    refine OpsOk.cons rfl (.v (VOk.lenL (e := e_api_Raw) (xs := a1) rfl Try.underlying46 rfl) rfl) ?_
    refine OpsOk.cons rfl (.v (VOk.mv (d := (.v (.int .i64 0))) rfl rfl) rfl) ?_
    exact .done (.mk ⟨.same _, .same _, .same _, .same _, .same _, .same _, trivial⟩ ⟨.same _, .same _, trivial⟩)
  refine Ok.block ?_
  refine Ok.le (σ' := ⟨[(0, (L 2 e_api_Bind a0)), (6, (.sref 6)), (7, (.mref 12)), (13, (L 2 e_api_Raw a1)), (14, (.v (.int .i64 (a1.length : Int)))), (15, (.v (.int .i64 0)))], [(6, (.rows true 54 3 (([] : List T_api_Attr).map e_api_Attr))), (12, (.map (List.map (fun p => ((fun a => D.agg (e_api_Name a)) p.1, D.v ((Value.int .i64) p.2))) ([] : List (T_api_Name × Int)))))]⟩) (.mk ⟨.same _, .same _, .same _, .same _, .same _, .same _, trivial⟩ ⟨.same _, .same _, trivial⟩) ?_
  refine Ok.loop (fun m7 σ => ∃ (y12_3 : List (T_api_Name × Int)) (y6_2 : List T_api_Attr) (x15_1 : Int), σ = ⟨[(0, (L 2 e_api_Bind a0)), (6, (.sref 6)), (7, (.mref 12)), (13, (L 2 e_api_Raw a1)), (14, (.v (.int .i64 (a1.length : Int)))), (15, (.v (.int .i64 x15_1)))], [(6, (.rows true 54 3 (y6_2.map e_api_Attr))), (12, (.map (List.map (fun p => ((fun a => D.agg (e_api_Name a)) p.1, D.v ((Value.int .i64) p.2))) y12_3)))]⟩ ∧ qname_Attrs.l0 k a0 a1 m7 y12_3 y6_2 x15_1 = some r) k ⟨([] : List (T_api_Name × Int)), ([] : List T_api_Attr), 0, rfl, H⟩ ?_
  rintro m7 σ ⟨y12_3, y6_2, x15_1, rfl, H⟩
  cases m7 with
  | zero => exact absurd H (by simp [qname_Attrs.l0])
  | succ m7 =>
    unfold qname_Attrs.l0 at H
    refine Ok.seq ?_
    refine Ok.region (σ' := ⟨[(0, (L 2 e_api_Bind a0)), (6, (.sref 6)), (7, (.mref 12)), (13, (L 2 e_api_Raw a1)), (14, (.v (.int .i64 (a1.length : Int)))), (15, (.v (.int .i64 x15_1))), (16, (.v (.bool (decide (x15_1 < (a1.length : Int))))))], [(6, (.rows true 54 3 (y6_2.map e_api_Attr))), (12, (.map (List.map (fun p => ((fun a => D.agg (e_api_Name a)) p.1, D.v ((Value.int .i64) p.2))) y12_3)))]⟩) ?_ ?_
    · refine OpsOk.cons rfl (.v (VOk.arith (op := .lss) (k := .i64) (a := x15_1) (b := (a1.length : Int)) rfl rfl rfl rfl) rfl) ?_
      exact .done (.mk ⟨.same _, .same _, .same _, .same _, .same _, .same _, .same _, trivial⟩ ⟨.same _, .same _, trivial⟩)
    refine Ok.seq ?_
    refine Ok.test (b := (decide (x15_1 < (a1.length : Int)))) rfl (fun hb14 => ?_) (fun hb14 => ?_)
    · replace H := ifT H hb14
      refine Ok.le (σ' := ⟨[(0, (L 2 e_api_Bind a0)), (6, (.sref 6)), (7, (.mref 12)), (13, (L 2 e_api_Raw a1)), (14, (.v (.int .i64 (a1.length : Int)))), (15, (.v (.int .i64 x15_1)))], [(6, (.rows true 54 3 (y6_2.map e_api_Attr))), (12, (.map (List.map (fun p => ((fun a => D.agg (e_api_Name a)) p.1, D.v ((Value.int .i64) p.2))) y12_3)))]⟩) (.mk ⟨.same _, .same _, .same _, .same _, .same _, .same _, trivial⟩ ⟨.same _, .same _, trivial⟩) ?_
      refine Ok.skip ?_
      refine Ok.seq ?_
      refine Ok.block ?_
      refine Ok.seq ?_
      obtain ⟨c8, H⟩ := assertE H
      refine Ok.region (σ' := ⟨[(0, (L 2 e_api_Bind a0)), (6, (.sref 6)), (7, (.mref 12)), (9, (.bref 9 0)), (13, (L 2 e_api_Raw a1)), (14, (.v (.int .i64 (a1.length : Int)))), (15, (.v (.int .i64 x15_1)))], [(6, (.rows true 54 3 (y6_2.map e_api_Attr))), (9, (.box .ex [(S ((rd a1 x15_1).Name)), (S ((rd a1 x15_1).Value))])), (12, (.map (List.map (fun p => ((fun a => D.agg (e_api_Name a)) p.1, D.v ((Value.int .i64) p.2))) y12_3)))]⟩) ?_ ?_
      · refine OpsOk.cons rfl (.v (VOk.indexL (sz := 2) (e := e_api_Raw) (xs := a1) (i := x15_1) rfl Try.underlying46 sz49 rfl rfl c8) rfl) ?_
        refine OpsOk.cons rfl (.v (VOk.to (d' := (.agg (e_api_Raw (rd a1 x15_1)))) (.loadFpAgg rfl Try.underlying49 rfl sz49 rfl rfl) rfl) rfl) ?_
        refine OpsOk.cons rfl (OpOk.alloc 9 [none, none] rfl zo49 rfl rfl) ?_
        refine OpsOk.cons rfl (OpOk.to (σ2 := St.put ⟨_, (9, (.box .ex [(S ((rd a1 x15_1).Name)), (S ((rd a1 x15_1).Value))])) :: _⟩ _ .junk) (.storeB rfl sz49 rfl rfl rfl rfl rfl rfl) rfl) ?_
        exact .done (.mk ⟨.same _, .same _, .same _, .same _, .same _, .same _, .same _, trivial⟩ ⟨.same _, .same _, .same _, trivial⟩)
      refine Ok.seq ?_
      obtain ⟨t9, h10, H⟩ := bindE H
      refine Ok.region (σ' := ⟨[(0, (L 2 e_api_Bind a0)), (6, (.sref 6)), (7, (.mref 12)), (9, (.bref 9 0)), (10, (.bref 10 0)), (11, (.v (.int .i64 t9.2))), (13, (L 2 e_api_Raw a1)), (14, (.v (.int .i64 (a1.length : Int)))), (15, (.v (.int .i64 x15_1)))], [(6, (.rows true 54 3 (y6_2.map e_api_Attr))), (9, (.box .ex [(S ((rd a1 x15_1).Name)), (S ((rd a1 x15_1).Value))])), (10, (.box .ex [(S t9.1.Space), (S t9.1.Local)])), (12, (.map (List.map (fun p => ((fun a => D.agg (e_api_Name a)) p.1, D.v ((Value.int .i64) p.2))) y12_3)))]⟩) ?_ ?_
      · refine OpsOk.cons rfl (.v (VOk.mv (d := (L 2 e_api_Bind a0)) rfl rfl) rfl) ?_
        refine OpsOk.cons rfl (.v (VOk.to (VOk.fieldB rfl Try.underlying49 rfl sz9 rfl rfl) rfl) rfl) ?_
        refine OpsOk.cons rfl (.v (VOk.loadB (d := (S ((rd a1 x15_1).Name))) rfl Try.underlying9 rfl rfl rfl rfl) rfl) ?_
        refine OpsOk.cons rfl (.g (GOk.call rfl rfl cl18 rfl (qname_Resolve.ok h10) rfl) rfl) ?_
        refine OpsOk.cons rfl (.v (VOk.mv (d := (.tup [(.agg (e_api_Name t9.1)), (.v (.int .i64 t9.2))])) rfl rfl) rfl) ?_
        refine OpsOk.cons rfl (.v (VOk.extract (d := (.agg (e_api_Name t9.1))) rfl rfl rfl) rfl) ?_
        refine OpsOk.cons rfl (.v (VOk.extract (d := (.v (.int .i64 t9.2))) rfl rfl rfl) rfl) ?_
        refine OpsOk.cons rfl (OpOk.alloc 10 [none, none] rfl zo40 rfl rfl) ?_
        refine OpsOk.cons rfl (OpOk.to (σ2 := St.put ⟨_, (10, (.box .ex [(S t9.1.Space), (S t9.1.Local)])) :: _⟩ _ .junk) (.storeB rfl sz40 rfl rfl rfl rfl rfl rfl) rfl) ?_
        refine OpsOk.cons rfl (.v (VOk.asg (d := (.v (.int .i64 t9.2))) rfl rfl) rfl) ?_
        exact .done (.mk ⟨.same _, .same _, .same _, .same _, .same _, .same _, .same _, .same _, .same _, trivial⟩ ⟨.same _, .same _, .same _, .same _, trivial⟩)
      refine Ok.seq ?_
      refine Ok.seq ?_
      refine Ok.region (σ' := ⟨[(0, (L 2 e_api_Bind a0)), (6, (.sref 6)), (7, (.mref 12)), (9, (.bref 9 0)), (10, (.bref 10 0)), (11, (.v (.int .i64 t9.2))), (13, (L 2 e_api_Raw a1)), (14, (.v (.int .i64 (a1.length : Int)))), (15, (.v (.int .i64 x15_1))), (27, (.v (.bool (t9.2 != 0))))], [(6, (.rows true 54 3 (y6_2.map e_api_Attr))), (9, (.box .ex [(S ((rd a1 x15_1).Name)), (S ((rd a1 x15_1).Value))])), (10, (.box .ex [(S t9.1.Space), (S t9.1.Local)])), (12, (.map (List.map (fun p => ((fun a => D.agg (e_api_Name a)) p.1, D.v ((Value.int .i64) p.2))) y12_3)))]⟩) ?_ ?_
      · refine OpsOk.cons rfl (.v (VOk.mv (d := (.v (.int .i64 t9.2))) rfl rfl) rfl) ?_
        refine OpsOk.cons rfl (.v (VOk.arith (op := .neq) (k := .i64) (a := t9.2) (b := 0) rfl rfl rfl rfl) rfl) ?_
        exact .done (.mk ⟨.same _, .same _, .same _, .same _, .same _, .same _, .same _, .same _, .same _, .same _, trivial⟩ ⟨.same _, .same _, .same _, .same _, trivial⟩)
      refine Ok.test (b := (t9.2 != 0)) rfl (fun hb13 => ?_) (fun hb13 => ?_)
      · replace H := ifT H hb13
        refine Ok.seq ?_
        refine Ok.region (σ' := ⟨[(4, (.v (.slice none 0 0))), (5, (.v (.int .i64 t9.2)))], []⟩) ?_ ?_
        · refine OpsOk.cons rfl (.v (VOk.mv (d := (.v (.int .i64 t9.2))) rfl rfl) rfl) ?_
          refine OpsOk.cons rfl (.v (VOk.asg (d := (.v (.slice none 0 0))) rfl rfl) rfl) ?_
          refine OpsOk.cons rfl (.v (VOk.asg (d := (.v (.int .i64 t9.2))) rfl rfl) rfl) ?_
          exact .done (.mk ⟨.same _, .same _, trivial⟩ trivial)
        refine Ok.le (σ' := ⟨[(4, (L 3 e_api_Attr ([] : List T_api_Attr))), (5, (.v (.int .i64 t9.2)))], []⟩) (.mk ⟨.nil _, .same _, trivial⟩ trivial) ?_
        refine Ok.ret ?_
        obtain rfl := Option.some.inj H
        exact ⟨.inl rfl, ⟨_, (.cons (.tmp rfl) (.cons (.tmp rfl) .nil)), rfl⟩, trivial⟩
      · replace H := ifF H hb13
        refine Ok.le (σ' := ⟨[(0, (L 2 e_api_Bind a0)), (6, (.sref 6)), (7, (.mref 12)), (9, (.bref 9 0)), (10, (.bref 10 0)), (13, (L 2 e_api_Raw a1)), (14, (.v (.int .i64 (a1.length : Int)))), (15, (.v (.int .i64 x15_1)))], [(6, (.rows true 54 3 (y6_2.map e_api_Attr))), (9, (.box .ex [(S ((rd a1 x15_1).Name)), (S ((rd a1 x15_1).Value))])), (10, (.box .ex [(S t9.1.Space), (S t9.1.Local)])), (12, (.map (List.map (fun p => ((fun a => D.agg (e_api_Name a)) p.1, D.v ((Value.int .i64) p.2))) y12_3)))]⟩) (.mk ⟨.same _, .same _, .same _, .same _, .same _, .same _, .same _, .same _, trivial⟩ ⟨.same _, .same _, .same _, .same _, trivial⟩) ?_
        refine Ok.skip ?_
        refine Ok.seq ?_
        refine Ok.seq ?_
        refine Ok.le (σ' := ⟨[(0, (L 2 e_api_Bind a0)), (6, (.sref 6)), (7, (.mref 12)), (9, (.bref 9 0)), (10, (.bref 10 0)), (13, (L 2 e_api_Raw a1)), (14, (.v (.int .i64 (a1.length : Int)))), (15, (.v (.int .i64 x15_1)))], [(6, (.rows true 54 3 (y6_2.map e_api_Attr))), (9, (.box .ex [(S ((rd a1 x15_1).Name)), (S ((rd a1 x15_1).Value))])), (10, (.box .ex [(S t9.1.Space), (S t9.1.Local)])), (12, (.map (List.map (fun p => ((fun a => D.agg (e_api_Name a)) p.1, D.v ((Value.int .i64) p.2))) y12_3)))]⟩) (.mk ⟨.same _, .same _, .same _, .same _, .same _, .same _, .same _, .same _, trivial⟩ ⟨.same _, .same _, .same _, .same _, trivial⟩) ?_
        refine Ok.drawL (σ' := ⟨[(0, (L 2 e_api_Bind a0)), (6, (.sref 6)), (7, (.mref 12)), (9, (.bref 9 0)), (10, (.bref 10 0)), (13, (L 2 e_api_Raw a1)), (14, (.v (.int .i64 (a1.length : Int)))), (15, (.v (.int .i64 x15_1)))], [(6, (.rows true 54 3 (y6_2.map e_api_Attr))), (9, (.box .ex [(S ((rd a1 x15_1).Name)), (S ((rd a1 x15_1).Value))])), (10, (.box .ex [(S t9.1.Space), (S t9.1.Local)])), (12, (.map (List.map (fun p => ((fun a => D.agg (e_api_Name a)) p.1, D.v ((Value.int .i64) p.2))) (ptm (enm keq40 0 y12_3 t9.1) (ixm keq40 y12_3 t9.1) (IntKind.i64.wrap ((lkm keq40 0 y12_3 t9.1) + 1))))))]⟩) [⟨true, [(7, (.mref 12))], [(12, (.map (List.map (fun p => ((fun a => D.agg (e_api_Name a)) p.1, D.v ((Value.int .i64) p.2))) y12_3)))], (.mref 12), [], false, []⟩, ⟨true, [(10, (.bref 10 0))], [(10, (.box .ex [(S t9.1.Space), (S t9.1.Local)]))], (.agg (e_api_Name t9.1)), [], false, []⟩, ⟨true, [(29, (.mref 12)), (30, (.agg (e_api_Name t9.1)))], [], (.v (.int .i64 (lkm keq40 0 y12_3 t9.1))), [], false, [(12, [(.map (List.map (fun p => ((fun a => D.agg (e_api_Name a)) p.1, D.v ((Value.int .i64) p.2))) y12_3)), (.map (List.map (fun p => ((fun a => D.agg (e_api_Name a)) p.1, D.v ((Value.int .i64) p.2))) (enm keq40 0 y12_3 t9.1)))])]⟩, ⟨true, [(31, (.v (.int .i64 (lkm keq40 0 y12_3 t9.1))))], [], (.v (.int .i64 (IntKind.i64.wrap ((lkm keq40 0 y12_3 t9.1) + 1)))), [], false, []⟩, ⟨true, [(29, (.mref 12)), (30, (.agg (e_api_Name t9.1)))], [(12, (.map (List.map (fun p => ((fun a => D.agg (e_api_Name a)) p.1, D.v ((Value.int .i64) p.2))) y12_3)))], (.tup [(.v (.int .i64 (lkm keq40 0 y12_3 t9.1))), (.v (.int .i64 (((ixm keq40 y12_3 t9.1) : Nat) : Int)))]), [(12, (.map (List.map (fun p => ((fun a => D.agg (e_api_Name a)) p.1, D.v ((Value.int .i64) p.2))) (enm keq40 0 y12_3 t9.1))))], false, []⟩, ⟨true, [(33, (.tup [(.v (.int .i64 (lkm keq40 0 y12_3 t9.1))), (.v (.int .i64 (((ixm keq40 y12_3 t9.1) : Nat) : Int)))]))], [], (.v (.int .i64 (((ixm keq40 y12_3 t9.1) : Nat) : Int))), [], false, []⟩, ⟨true, [(29, (.mref 12)), (34, (.v (.int .i64 (((ixm keq40 y12_3 t9.1) : Nat) : Int)))), (32, (.v (.int .i64 (IntKind.i64.wrap ((lkm keq40 0 y12_3 t9.1) + 1)))))], [(12, (.map (List.map (fun p => ((fun a => D.agg (e_api_Name a)) p.1, D.v ((Value.int .i64) p.2))) (enm keq40 0 y12_3 t9.1))))], .junk, [(12, (.map (List.map (fun p => ((fun a => D.agg (e_api_Name a)) p.1, D.v ((Value.int .i64) p.2))) (ptm (enm keq40 0 y12_3 t9.1) (ixm keq40 y12_3 t9.1) (IntKind.i64.wrap ((lkm keq40 0 y12_3 t9.1) + 1))))))], false, []⟩] [[], [], [0, 1], [2], [0, 1], [4], [0, 2, 3, 4, 5]] mixed (by kernel_rfl) (loose_of ⟨trivial, ⟨trivial, ⟨⟨.head _, ⟨.inl rfl, ⟨.inl rfl, ⟨.inr (.inr (.inr rfl)), ⟨.inl rfl, ⟨.inr (.inl ⟨_, rfl, .tail _ (.head _)⟩), ⟨.inl rfl, ⟨.inr (.inr (.inl rfl)), trivial⟩⟩⟩⟩⟩⟩⟩⟩, ⟨trivial, ⟨trivial, ⟨trivial, ⟨trivial, trivial⟩⟩⟩⟩⟩⟩⟩) ?_ ?_
        · refine TxtE2.cons ⟨.same _, trivial⟩ ⟨rfl, trivial⟩ (It2.val rfl rfl (fun T hT => (VOk.g (VOk.mv (d := (.mref 12)) rfl rfl)))) ?_
          refine TxtE2.cons ⟨.same _, trivial⟩ ⟨rfl, trivial⟩ (It2.val rfl rfl (fun T hT => (VOk.g (VOk.to (d' := (.agg (e_api_Name t9.1))) (.loadBAgg rfl Try.underlying40 rfl sz40 rfl hT.1 rfl) rfl)))) ?_
          refine TxtE2.cons ⟨.same _, .same _, trivial⟩ trivial (It2.mapGetL (vv := (Value.int .i64)) (m := y12_3) (k := t9.1) 0 rfl rfl Try.underlying67 kt40 zo3 rfl rfl rfl) ?_
          refine TxtE2.cons ⟨.same _, trivial⟩ trivial (It2.val rfl rfl (fun T hT => (VOk.g (VOk.arith (op := .add) (k := .i64) (a := (lkm keq40 0 y12_3 t9.1)) (b := 1) rfl rfl rfl rfl)))) ?_
          refine TxtE2.cons ⟨.same _, .same _, trivial⟩ ⟨rfl, trivial⟩ (It2.mapEnt (vv := (Value.int .i64)) (m := y12_3) (k := t9.1) 0 rfl rfl Try.underlying67 kt40 zo3 rfl rfl rfl rfl rfl) ?_
          refine TxtE2.cons ⟨.same _, trivial⟩ trivial (It2.val rfl rfl (fun T hT => (VOk.g (VOk.extract (d := (.v (.int .i64 (((ixm keq40 y12_3 t9.1) : Nat) : Int)))) rfl rfl rfl)))) ?_
          refine TxtE2.cons ⟨.same _, .same _, .same _, trivial⟩ ⟨rfl, trivial⟩ (It2.mapPut (vv := (Value.int .i64)) (m := (enm keq40 0 y12_3 t9.1)) (i := (ixm keq40 y12_3 t9.1)) (v := (IntKind.i64.wrap ((lkm keq40 0 y12_3 t9.1) + 1))) (kt := 40) rfl rfl kt40 rfl rfl rfl rfl rfl (ixm_lt 0 y12_3 t9.1) rfl) ?_
          exact .done (.mk ⟨.same _, .same _, .same _, .same _, .same _, .same _, .same _, .same _, trivial⟩ ⟨.same _, .same _, .same _, .same _, trivial⟩)
        refine Ok.seq ?_
        refine Ok.region (σ' := ⟨[(0, (L 2 e_api_Bind a0)), (6, (.sref 6)), (7, (.mref 12)), (9, (.bref 9 0)), (10, (.bref 10 0)), (13, (L 2 e_api_Raw a1)), (14, (.v (.int .i64 (a1.length : Int)))), (15, (.v (.int .i64 x15_1))), (38, (.v (.bool (decide ((lkm keq40 0 (ptm (enm keq40 0 y12_3 t9.1) (ixm keq40 y12_3 t9.1) (IntKind.i64.wrap ((lkm keq40 0 y12_3 t9.1) + 1))) t9.1) > 1)))))], [(6, (.rows true 54 3 (y6_2.map e_api_Attr))), (9, (.box .ex [(S ((rd a1 x15_1).Name)), (S ((rd a1 x15_1).Value))])), (10, (.box .ex [(S t9.1.Space), (S t9.1.Local)])), (12, (.map (List.map (fun p => ((fun a => D.agg (e_api_Name a)) p.1, D.v ((Value.int .i64) p.2))) (ptm (enm keq40 0 y12_3 t9.1) (ixm keq40 y12_3 t9.1) (IntKind.i64.wrap ((lkm keq40 0 y12_3 t9.1) + 1))))))]⟩) ?_ ?_
        · refine OpsOk.cons rfl (.v (VOk.mv (d := (.mref 12)) rfl rfl) rfl) ?_
          refine OpsOk.cons rfl (.v (VOk.to (d' := (.agg (e_api_Name t9.1))) (.loadBAgg rfl Try.underlying40 rfl sz40 rfl rfl rfl) rfl) rfl) ?_
          refine OpsOk.cons rfl (.v (VOk.mapGet (vv := (Value.int .i64)) (m := (ptm (enm keq40 0 y12_3 t9.1) (ixm keq40 y12_3 t9.1) (IntKind.i64.wrap ((lkm keq40 0 y12_3 t9.1) + 1)))) (k := t9.1) 0 rfl Try.underlying67 kt40 zo3 rfl rfl rfl) rfl) ?_
          refine OpsOk.cons rfl (.v (VOk.arith (op := .gtr) (k := .i64) (a := (lkm keq40 0 (ptm (enm keq40 0 y12_3 t9.1) (ixm keq40 y12_3 t9.1) (IntKind.i64.wrap ((lkm keq40 0 y12_3 t9.1) + 1))) t9.1)) (b := 1) rfl rfl rfl rfl) rfl) ?_
          exact .done (.mk ⟨.same _, .same _, .same _, .same _, .same _, .same _, .same _, .same _, .same _, trivial⟩ ⟨.same _, .same _, .same _, .same _, trivial⟩)
        refine Ok.test (b := (decide ((lkm keq40 0 (ptm (enm keq40 0 y12_3 t9.1) (ixm keq40 y12_3 t9.1) (IntKind.i64.wrap ((lkm keq40 0 y12_3 t9.1) + 1))) t9.1) > 1))) rfl (fun hb12 => ?_) (fun hb12 => ?_)
        · replace H := ifT H hb12
          refine Ok.seq ?_
          refine Ok.region (σ' := ⟨[(4, (.v (.slice none 0 0))), (5, (.v (.int .i64 14)))], []⟩) ?_ ?_
          · refine OpsOk.cons rfl (.v (VOk.asg (d := (.v (.slice none 0 0))) rfl rfl) rfl) ?_
            refine OpsOk.cons rfl (.v (VOk.asg (d := (.v (.int .i64 14))) rfl rfl) rfl) ?_
            exact .done (.mk ⟨.same _, .same _, trivial⟩ trivial)
          refine Ok.le (σ' := ⟨[(4, (L 3 e_api_Attr ([] : List T_api_Attr))), (5, (.v (.int .i64 14)))], []⟩) (.mk ⟨.nil _, .same _, trivial⟩ trivial) ?_
          refine Ok.ret ?_
          obtain rfl := Option.some.inj H
          exact ⟨.inl rfl, ⟨_, (.cons (.tmp rfl) (.cons (.tmp rfl) .nil)), rfl⟩, trivial⟩
        · replace H := ifF H hb12
          refine Ok.le (σ' := ⟨[(0, (L 2 e_api_Bind a0)), (6, (.sref 6)), (7, (.mref 12)), (9, (.bref 9 0)), (10, (.bref 10 0)), (13, (L 2 e_api_Raw a1)), (14, (.v (.int .i64 (a1.length : Int)))), (15, (.v (.int .i64 x15_1)))], [(6, (.rows true 54 3 (y6_2.map e_api_Attr))), (9, (.box .ex [(S ((rd a1 x15_1).Name)), (S ((rd a1 x15_1).Value))])), (10, (.box .ex [(S t9.1.Space), (S t9.1.Local)])), (12, (.map (List.map (fun p => ((fun a => D.agg (e_api_Name a)) p.1, D.v ((Value.int .i64) p.2))) (ptm (enm keq40 0 y12_3 t9.1) (ixm keq40 y12_3 t9.1) (IntKind.i64.wrap ((lkm keq40 0 y12_3 t9.1) + 1))))))]⟩) (.mk ⟨.same _, .same _, .same _, .same _, .same _, .same _, .same _, .same _, trivial⟩ ⟨.same _, .same _, .same _, .same _, trivial⟩) ?_
          refine Ok.skip ?_
          obtain ⟨c11, H⟩ := assertE H
          refine Ok.region (σ' := ⟨[(0, (L 2 e_api_Bind a0)), (6, (.sref 6)), (7, (.mref 12)), (13, (L 2 e_api_Raw a1)), (14, (.v (.int .i64 (a1.length : Int)))), (15, (.v (.int .i64 x15_1)))], [(6, (.rows true 54 3 ((y6_2 ++ ([(T_api_Attr.mk (T_api_Name.mk t9.1.Space t9.1.Local) ((rd a1 x15_1).Value))] : List T_api_Attr)).map e_api_Attr))), (12, (.map (List.map (fun p => ((fun a => D.agg (e_api_Name a)) p.1, D.v ((Value.int .i64) p.2))) (ptm (enm keq40 0 y12_3 t9.1) (ixm keq40 y12_3 t9.1) (IntKind.i64.wrap ((lkm keq40 0 y12_3 t9.1) + 1))))))]⟩) ?_ ?_
          · refine OpsOk.cons rfl (.v (VOk.mv (d := (.sref 6)) rfl rfl) rfl) ?_
            refine OpsOk.cons rfl (.v (VOk.to (d' := (.agg (e_api_Name t9.1))) (.loadBAgg rfl Try.underlying40 rfl sz40 rfl rfl rfl) rfl) rfl) ?_
            refine OpsOk.cons rfl (.v (VOk.to (VOk.fieldB rfl Try.underlying49 rfl sz9 rfl rfl) rfl) rfl) ?_
            refine OpsOk.cons rfl (.v (VOk.loadB (d := (S ((rd a1 x15_1).Value))) rfl Try.underlying9 rfl rfl rfl rfl) rfl) ?_
            refine OpsOk.cons rfl (.v (VOk.to (d' := (.agg (e_api_Attr (T_api_Attr.mk (T_api_Name.mk t9.1.Space t9.1.Local) ((rd a1 x15_1).Value))))) (.build [none, none, none] [(0, 2), (2, 1)] rfl Try.underlying54 (fa54 Try.underlying54) zo54 rfl rfl) rfl) rfl) ?_
            refine OpsOk.cons rfl (.g (GOk.to (d' := (L 3 e_api_Attr ([(T_api_Attr.mk (T_api_Name.mk t9.1.Space t9.1.Local) ((rd a1 x15_1).Value))] : List T_api_Attr))) (GOk.lit rfl Try.underlying50 sz54 zs54 rfl rfl rfl rfl) rfl) rfl) ?_
            refine OpsOk.cons rfl (OpOk.appendL (e := e_api_Attr) (xs := y6_2) (ys := ([(T_api_Attr.mk (T_api_Name.mk t9.1.Space t9.1.Local) ((rd a1 x15_1).Value))] : List T_api_Attr)) rfl Try.underlying50 elt54 rfl rfl rfl c11 rfl) ?_
            refine OpsOk.cons rfl (.v (VOk.asg (d := (.sref 6)) rfl rfl) rfl) ?_
            exact .done (.mk ⟨.same _, .same _, .same _, .same _, .same _, .same _, trivial⟩ ⟨.same _, .same _, trivial⟩)
          refine Ok.region (σ' := ⟨[(0, (L 2 e_api_Bind a0)), (6, (.sref 6)), (7, (.mref 12)), (13, (L 2 e_api_Raw a1)), (14, (.v (.int .i64 (a1.length : Int)))), (15, (.v (.int .i64 (IntKind.i64.wrap (x15_1 + 1)))))], [(6, (.rows true 54 3 ((y6_2 ++ ([(T_api_Attr.mk (T_api_Name.mk t9.1.Space t9.1.Local) ((rd a1 x15_1).Value))] : List T_api_Attr)).map e_api_Attr))), (12, (.map (List.map (fun p => ((fun a => D.agg (e_api_Name a)) p.1, D.v ((Value.int .i64) p.2))) (ptm (enm keq40 0 y12_3 t9.1) (ixm keq40 y12_3 t9.1) (IntKind.i64.wrap ((lkm keq40 0 y12_3 t9.1) + 1))))))]⟩) ?_ ?_
          · refine OpsOk.cons rfl (.v (VOk.arith (op := .add) (k := .i64) (a := x15_1) (b := 1) rfl rfl rfl rfl) rfl) ?_
            refine OpsOk.cons rfl (.v (VOk.mv (d := (.v (.int .i64 (IntKind.i64.wrap (x15_1 + 1))))) rfl rfl) rfl) ?_
            exact .done (.mk ⟨.same _, .same _, .same _, .same _, .same _, .same _, trivial⟩ ⟨.same _, .same _, trivial⟩)
          exact ⟨m7, Nat.lt_succ_self m7, (ptm (enm keq40 0 y12_3 t9.1) (ixm keq40 y12_3 t9.1) (IntKind.i64.wrap ((lkm keq40 0 y12_3 t9.1) + 1))), (y6_2 ++ ([(T_api_Attr.mk (T_api_Name.mk t9.1.Space t9.1.Local) ((rd a1 x15_1).Value))] : List T_api_Attr)), (IntKind.i64.wrap (x15_1 + 1)), rfl, H⟩
    · replace H := ifF H hb14
      refine Ok.le (σ' := ⟨[(6, (.sref 6))], [(6, (.rows true 54 3 (y6_2.map e_api_Attr)))]⟩) (.mk ⟨.same _, trivial⟩ ⟨.same _, trivial⟩) ?_
      refine Ok.exit ?_
      refine Ok.seq ?_
      refine Ok.region (σ' := ⟨[(4, (.sref 6)), (5, (.v (.int .i64 0)))], [(6, (.rows true 54 3 (y6_2.map e_api_Attr)))]⟩) ?_ ?_
      · refine OpsOk.cons rfl (.v (VOk.mv (d := (.sref 6)) rfl rfl) rfl) ?_
        refine OpsOk.cons rfl (.v (VOk.asg (d := (.sref 6)) rfl rfl) rfl) ?_
        refine OpsOk.cons rfl (.v (VOk.asg (d := (.v (.int .i64 0))) rfl rfl) rfl) ?_
        exact .done (.mk ⟨.same _, .same _, trivial⟩ ⟨.same _, trivial⟩)
      refine Ok.frzL 6 (e := e_api_Attr) (xs := y6_2) rfl ?_
      refine Ok.le (σ' := ⟨[(4, (L 3 e_api_Attr y6_2)), (5, (.v (.int .i64 0)))], []⟩) (.mk ⟨.same _, .same _, trivial⟩ trivial) ?_
      refine Ok.ret ?_
      obtain rfl := Option.some.inj H
      exact ⟨.inl rfl, ⟨_, (.cons (.tmp rfl) (.cons (.tmp rfl) .nil)), rfl⟩, trivial⟩

/-! watchbill/watchbillref02.Split: function 11 -/
def watchbillref02_Split.l0 (k : Nat) (a0 : Str) : Nat → Int → Option (Str × Str × Bool)
  | 0, _ => none
  | m3 + 1, x5_1 => (if (decide (x5_1 < (a0.length : Int))) = true then (if (0 : Int) ≤ x5_1 ∧ x5_1 < (a0.length : Int) then (if ((bt a0 x5_1) == 58) = true then (if (0 : Int) ≤ 0 ∧ (0 : Int) ≤ x5_1 ∧ x5_1 ≤ (a0.length : Int) then (if (0 : Int) ≤ (IntKind.i64.wrap (x5_1 + 1)) ∧ (IntKind.i64.wrap (x5_1 + 1)) ≤ (a0.length : Int) ∧ (a0.length : Int) ≤ (a0.length : Int) then ((watchbillref01_Name k (sl a0 0 x5_1)).bind fun (t7 : Bool) => (((if (t7 == true) = true then watchbillref01_Name k (sl a0 (IntKind.i64.wrap (x5_1 + 1)) (a0.length : Int)) else some default)).bind fun (t10 : Bool) => (if (t7 && t10) = true then some ((sl a0 0 x5_1), (sl a0 (IntKind.i64.wrap (x5_1 + 1)) (a0.length : Int)), true) else some (([] : Str), ([] : Str), false)))) else none) else none) else watchbillref02_Split.l0 k a0 m3 (IntKind.i64.wrap (x5_1 + 1))) else none) else ((watchbillref01_Name k a0).bind fun (t15 : Bool) => (if t15 = true then some (([] : Str), a0, true) else some (([] : Str), ([] : Str), false))))
def watchbillref02_Split (k : Nat) (a0 : Str) : Option (Str × Str × Bool) := watchbillref02_Split.l0 k a0 k 0
theorem watchbillref02_Split.ok {k : Nat} {a0 : Str} {r : Str × Str × Bool} (H : watchbillref02_Split k a0 = some r) : Vx.Fn Try.prog 11 [(S a0)] [] (.tup [(S r.1), (S r.2.1), (.v (.bool r.2.2))]) [] := by
  unfold watchbillref02_Split at H
  refine Vx.Fn.of_okR Try.func11 rfl (Nat.le_of_ble_eq_true rfl) ?_
  refine Ok.seq ?_
  refine Ok.region (σ' := ⟨[(0, (S a0))], []⟩) ?_ ?_
  · refine OpsOk.cons rfl (.v (VOk.asg (d := (S ([] : Str))) rfl rfl) rfl) ?_
    refine OpsOk.cons rfl (.v (VOk.asg (d := (S ([] : Str))) rfl rfl) rfl) ?_
    refine OpsOk.cons rfl (.v (VOk.asg (d := (.v (.bool false))) rfl rfl) rfl) ?_
    exact .done (.mk ⟨.same _, trivial⟩ trivial)
  refine Ok.seq ?_
  refine Ok.seq ?_
  refine Ok.region (σ' := ⟨[(0, (S a0)), (5, (.v (.int .i64 0)))], []⟩) ?_ ?_
  · refine OpsOk.cons rfl (.v (VOk.asg (d := (.v (.int .i64 0))) rfl rfl) rfl) ?_
    exact .done (.mk ⟨.same _, .same _, trivial⟩ trivial)
  refine Ok.block ?_
  refine Ok.le (σ' := ⟨[(0, (S a0)), (5, (.v (.int .i64 0)))], []⟩) (.mk ⟨.same _, .same _, trivial⟩ trivial) ?_
  refine Ok.loop (fun m3 σ => ∃ (x5_1 : Int), σ = ⟨[(0, (S a0)), (5, (.v (.int .i64 x5_1)))], []⟩ ∧ watchbillref02_Split.l0 k a0 m3 x5_1 = some r) k ⟨0, rfl, H⟩ ?_
  rintro m3 σ ⟨x5_1, rfl, H⟩
  cases m3 with
  | zero => exact absurd H (by simp [watchbillref02_Split.l0])
  | succ m3 =>
    unfold watchbillref02_Split.l0 at H
    refine Ok.seq ?_
    refine Ok.seq ?_
    refine Ok.region (σ' := ⟨[(0, (S a0)), (5, (.v (.int .i64 x5_1))), (11, (.v (.bool (decide (x5_1 < (a0.length : Int))))))], []⟩) ?_ ?_
    · refine OpsOk.cons rfl (.v (VOk.mv (d := (.v (.int .i64 x5_1))) rfl rfl) rfl) ?_
      refine OpsOk.cons rfl (.v (VOk.mv (d := (S a0)) rfl rfl) rfl) ?_
      refine OpsOk.cons rfl (.v (VOk.lenStr (s := a0) rfl Try.underlying9 rfl) rfl) ?_
      refine OpsOk.cons rfl (.v (VOk.arith (op := .lss) (k := .i64) (a := x5_1) (b := (a0.length : Int)) rfl rfl rfl rfl) rfl) ?_
      exact .done (.mk ⟨.same _, .same _, .same _, trivial⟩ trivial)
    refine Ok.test (b := (decide (x5_1 < (a0.length : Int)))) rfl (fun hb18 => ?_) (fun hb18 => ?_)
    · replace H := ifT H hb18
      refine Ok.le (σ' := ⟨[(0, (S a0)), (5, (.v (.int .i64 x5_1)))], []⟩) (.mk ⟨.same _, .same _, trivial⟩ trivial) ?_
      refine Ok.skip ?_
      refine Ok.seq ?_
      refine Ok.block ?_
      refine Ok.seq ?_
      obtain ⟨c4, H⟩ := assertE H
      refine Ok.region (σ' := ⟨[(0, (S a0)), (5, (.v (.int .i64 x5_1))), (17, (.v (.bool ((bt a0 x5_1) == 58))))], []⟩) ?_ ?_
      · refine OpsOk.cons rfl (.v (VOk.mv (d := (S a0)) rfl rfl) rfl) ?_
        refine OpsOk.cons rfl (.v (VOk.mv (d := (.v (.int .i64 x5_1))) rfl rfl) rfl) ?_
        refine OpsOk.cons rfl (.v (VOk.indexStr (s := a0) (i := x5_1) rfl Try.underlying9 rfl rfl c4) rfl) ?_
        refine OpsOk.cons rfl (.v (VOk.arith (op := .eql) (k := .u8) (a := (bt a0 x5_1)) (b := 58) rfl rfl rfl rfl) rfl) ?_
        exact .done (.mk ⟨.same _, .same _, .same _, trivial⟩ trivial)
      refine Ok.test (b := ((bt a0 x5_1) == 58)) rfl (fun hb14 => ?_) (fun hb14 => ?_)
      · replace H := ifT H hb14
        refine Ok.seq ?_
        obtain ⟨c5, H⟩ := assertE H
        obtain ⟨c6, H⟩ := assertE H
        refine Ok.drawE (σ' := ⟨[(6, (S (sl a0 0 x5_1))), (7, (S (sl a0 (IntKind.i64.wrap (x5_1 + 1)) (a0.length : Int))))], []⟩) [⟨true, [(0, (S a0))], (S a0)⟩, ⟨true, [(5, (.v (.int .i64 x5_1)))], (.v (.int .i64 x5_1))⟩, ⟨true, [(18, (S a0)), (19, (.v (.int .i64 x5_1)))], (S (sl a0 0 x5_1))⟩, ⟨true, [(0, (S a0))], (S a0)⟩, ⟨true, [(5, (.v (.int .i64 x5_1)))], (.v (.int .i64 x5_1))⟩, ⟨true, [(22, (.v (.int .i64 x5_1)))], (.v (.int .i64 (IntKind.i64.wrap (x5_1 + 1))))⟩, ⟨true, [(21, (S a0)), (23, (.v (.int .i64 (IntKind.i64.wrap (x5_1 + 1)))))], (S (sl a0 (IntKind.i64.wrap (x5_1 + 1)) (a0.length : Int)))⟩, ⟨true, [(20, (S (sl a0 0 x5_1)))], (S (sl a0 0 x5_1))⟩, ⟨true, [(24, (S (sl a0 (IntKind.i64.wrap (x5_1 + 1)) (a0.length : Int))))], (S (sl a0 (IntKind.i64.wrap (x5_1 + 1)) (a0.length : Int)))⟩] [[], [], [0, 1], [], [], [4], [3, 5], [2], [6]] mixed (by kernel_rfl) ?_ ?_
        · refine TxtE.cons rfl ⟨.same _, trivial⟩ rfl (VOk.g (VOk.mv (d := (S a0)) rfl rfl)) ?_
          refine TxtE.cons rfl ⟨.same _, trivial⟩ rfl (VOk.g (VOk.mv (d := (.v (.int .i64 x5_1))) rfl rfl)) ?_
          refine TxtE.cons rfl ⟨.same _, .same _, trivial⟩ rfl (VOk.g (VOk.sliceStr (s := a0) (l := 0) (h := x5_1) rfl Try.underlying9 rfl rfl rfl c5)) ?_
          refine TxtE.cons rfl ⟨.same _, trivial⟩ rfl (VOk.g (VOk.mv (d := (S a0)) rfl rfl)) ?_
          refine TxtE.cons rfl ⟨.same _, trivial⟩ rfl (VOk.g (VOk.mv (d := (.v (.int .i64 x5_1))) rfl rfl)) ?_
          refine TxtE.cons rfl ⟨.same _, trivial⟩ rfl (VOk.g (VOk.arith (op := .add) (k := .i64) (a := x5_1) (b := 1) rfl rfl rfl rfl)) ?_
          refine TxtE.cons rfl ⟨.same _, .same _, trivial⟩ rfl (VOk.g (VOk.sliceStr (s := a0) (l := (IntKind.i64.wrap (x5_1 + 1))) (h := (a0.length : Int)) rfl Try.underlying9 rfl rfl rfl c6)) ?_
          refine TxtE.cons rfl ⟨.same _, trivial⟩ rfl (VOk.g (VOk.asg (d := (S (sl a0 0 x5_1))) rfl rfl)) ?_
          refine TxtE.cons rfl ⟨.same _, trivial⟩ rfl (VOk.g (VOk.asg (d := (S (sl a0 (IntKind.i64.wrap (x5_1 + 1)) (a0.length : Int)))) rfl rfl)) ?_
          exact .done (.mk ⟨.same _, .same _, trivial⟩ trivial)
        refine Ok.seq ?_
        refine Ok.seq ?_
        obtain ⟨t7, h8, H⟩ := bindE H
        obtain ⟨t10, h11, H⟩ := bindE H
        refine Ok.region (σ' := ⟨[(6, (S (sl a0 0 x5_1))), (7, (S (sl a0 (IntKind.i64.wrap (x5_1 + 1)) (a0.length : Int)))), (30, (.v (.bool (t7 && t10))))], []⟩) ?_ ?_
        · refine OpsOk.cons rfl (.v (VOk.mv (d := (S (sl a0 0 x5_1))) rfl rfl) rfl) ?_
          refine OpsOk.cons rfl (.g (GOk.call rfl rfl cl29 rfl (watchbillref01_Name.ok h8) rfl) rfl) ?_
          refine OpsOk.cons rfl (.v (VOk.mv (d := (.v (.bool t7))) rfl rfl) rfl) ?_
          refine OpsOk.consI rfl rfl rfl (.one rfl) rfl (fun hw9 => (VOk.g (VOk.mv (d := (S (sl a0 (IntKind.i64.wrap (x5_1 + 1)) (a0.length : Int)))) rfl rfl))) ?_
          refine OpsOk.consI rfl rfl rfl (.one rfl) rfl (fun hw9 => (GOk.fr (fr' := [(28, (S (sl a0 (IntKind.i64.wrap (x5_1 + 1)) (a0.length : Int))))]) ⟨DLe.of_eq (cT hw9).symm, trivial⟩ (GOk.call rfl rfl cl29 rfl (watchbillref01_Name.ok (ifT h11 hw9)) rfl))) ?_
          refine OpsOk.cons rfl (.v (VOk.to (VOk.pickI (b := t7) (p := t10) (q := false) rfl rfl (fun hp12 => (cT (t_beq hp12))) (fun hp12 => rfl)) (pickAnd t7 t10)) rfl) ?_
          exact .done (.mk ⟨.same _, .same _, .same _, trivial⟩ trivial)
        refine Ok.test (b := (t7 && t10)) rfl (fun hb13 => ?_) (fun hb13 => ?_)
        · replace H := ifT H hb13
          refine Ok.seq ?_
          refine Ok.region (σ' := ⟨[(2, (S (sl a0 0 x5_1))), (3, (S (sl a0 (IntKind.i64.wrap (x5_1 + 1)) (a0.length : Int)))), (4, (.v (.bool true)))], []⟩) ?_ ?_
          · refine OpsOk.cons rfl (.v (VOk.mv (d := (S (sl a0 0 x5_1))) rfl rfl) rfl) ?_
            refine OpsOk.cons rfl (.v (VOk.mv (d := (S (sl a0 (IntKind.i64.wrap (x5_1 + 1)) (a0.length : Int)))) rfl rfl) rfl) ?_
            refine OpsOk.cons rfl (.v (VOk.asg (d := (S (sl a0 0 x5_1))) rfl rfl) rfl) ?_
            refine OpsOk.cons rfl (.v (VOk.asg (d := (S (sl a0 (IntKind.i64.wrap (x5_1 + 1)) (a0.length : Int)))) rfl rfl) rfl) ?_
            refine OpsOk.cons rfl (.v (VOk.asg (d := (.v (.bool true))) rfl rfl) rfl) ?_
            exact .done (.mk ⟨.same _, .same _, .same _, trivial⟩ trivial)
          refine Ok.le (σ' := ⟨[(2, (S (sl a0 0 x5_1))), (3, (S (sl a0 (IntKind.i64.wrap (x5_1 + 1)) (a0.length : Int)))), (4, (.v (.bool true)))], []⟩) (.mk ⟨.same _, .same _, .same _, trivial⟩ trivial) ?_
          refine Ok.ret ?_
          obtain rfl := Option.some.inj H
          exact ⟨.inl rfl, ⟨_, (.cons (.tmp rfl) (.cons (.tmp rfl) (.cons (.tmp rfl) .nil))), rfl⟩, trivial⟩
        · replace H := ifF H hb13
          refine Ok.le (σ' := ⟨[], []⟩) (.mk trivial trivial) ?_
          refine Ok.skip ?_
          refine Ok.seq ?_
          refine Ok.region (σ' := ⟨[(2, (S ([] : Str))), (3, (S ([] : Str))), (4, (.v (.bool false)))], []⟩) ?_ ?_
          · refine OpsOk.cons rfl (.v (VOk.asg (d := (S ([] : Str))) rfl rfl) rfl) ?_
            refine OpsOk.cons rfl (.v (VOk.asg (d := (S ([] : Str))) rfl rfl) rfl) ?_
            refine OpsOk.cons rfl (.v (VOk.asg (d := (.v (.bool false))) rfl rfl) rfl) ?_
            exact .done (.mk ⟨.same _, .same _, .same _, trivial⟩ trivial)
          refine Ok.le (σ' := ⟨[(2, (S ([] : Str))), (3, (S ([] : Str))), (4, (.v (.bool false)))], []⟩) (.mk ⟨.same _, .same _, .same _, trivial⟩ trivial) ?_
          refine Ok.ret ?_
          obtain rfl := Option.some.inj H
          exact ⟨.inl rfl, ⟨_, (.cons (.tmp rfl) (.cons (.tmp rfl) (.cons (.tmp rfl) .nil))), rfl⟩, trivial⟩
      · replace H := ifF H hb14
        refine Ok.le (σ' := ⟨[(0, (S a0)), (5, (.v (.int .i64 x5_1)))], []⟩) (.mk ⟨.same _, .same _, trivial⟩ trivial) ?_
        refine Ok.skip ?_
        refine Ok.region (σ' := ⟨[(0, (S a0)), (5, (.v (.int .i64 (IntKind.i64.wrap (x5_1 + 1)))))], []⟩) ?_ ?_
        · refine OpsOk.cons rfl (.v (VOk.mv (d := (.v (.int .i64 x5_1))) rfl rfl) rfl) ?_
          refine OpsOk.cons rfl (.v (VOk.arith (op := .add) (k := .i64) (a := x5_1) (b := 1) rfl rfl rfl rfl) rfl) ?_
          refine OpsOk.cons rfl (.v (VOk.asg (d := (.v (.int .i64 (IntKind.i64.wrap (x5_1 + 1))))) rfl rfl) rfl) ?_
          exact .done (.mk ⟨.same _, .same _, trivial⟩ trivial)
        exact ⟨m3, Nat.lt_succ_self m3, (IntKind.i64.wrap (x5_1 + 1)), rfl, H⟩
    · replace H := ifF H hb18
      refine Ok.le (σ' := ⟨[(0, (S a0))], []⟩) (.mk ⟨.same _, trivial⟩ trivial) ?_
      refine Ok.exit ?_
      refine Ok.seq ?_
      refine Ok.seq ?_
      obtain ⟨t15, h16, H⟩ := bindE H
      refine Ok.region (σ' := ⟨[(0, (S a0)), (34, (.v (.bool t15)))], []⟩) ?_ ?_
      · refine OpsOk.cons rfl (.v (VOk.mv (d := (S a0)) rfl rfl) rfl) ?_
        refine OpsOk.cons rfl (.g (GOk.call rfl rfl cl29 rfl (watchbillref01_Name.ok h16) rfl) rfl) ?_
        exact .done (.mk ⟨.same _, .same _, trivial⟩ trivial)
      refine Ok.test (b := t15) rfl (fun hb17 => ?_) (fun hb17 => ?_)
      · replace H := ifT H hb17
        refine Ok.seq ?_
        refine Ok.region (σ' := ⟨[(2, (S ([] : Str))), (3, (S a0)), (4, (.v (.bool true)))], []⟩) ?_ ?_
        · refine OpsOk.cons rfl (.v (VOk.mv (d := (S a0)) rfl rfl) rfl) ?_
          refine OpsOk.cons rfl (.v (VOk.asg (d := (S ([] : Str))) rfl rfl) rfl) ?_
          refine OpsOk.cons rfl (.v (VOk.asg (d := (S a0)) rfl rfl) rfl) ?_
          refine OpsOk.cons rfl (.v (VOk.asg (d := (.v (.bool true))) rfl rfl) rfl) ?_
          exact .done (.mk ⟨.same _, .same _, .same _, trivial⟩ trivial)
        refine Ok.le (σ' := ⟨[(2, (S ([] : Str))), (3, (S a0)), (4, (.v (.bool true)))], []⟩) (.mk ⟨.same _, .same _, .same _, trivial⟩ trivial) ?_
        refine Ok.ret ?_
        obtain rfl := Option.some.inj H
        exact ⟨.inl rfl, ⟨_, (.cons (.tmp rfl) (.cons (.tmp rfl) (.cons (.tmp rfl) .nil))), rfl⟩, trivial⟩
      · replace H := ifF H hb17
        refine Ok.le (σ' := ⟨[], []⟩) (.mk trivial trivial) ?_
        refine Ok.skip ?_
        refine Ok.seq ?_
        refine Ok.region (σ' := ⟨[(2, (S ([] : Str))), (3, (S ([] : Str))), (4, (.v (.bool false)))], []⟩) ?_ ?_
        · refine OpsOk.cons rfl (.v (VOk.asg (d := (S ([] : Str))) rfl rfl) rfl) ?_
          refine OpsOk.cons rfl (.v (VOk.asg (d := (S ([] : Str))) rfl rfl) rfl) ?_
          refine OpsOk.cons rfl (.v (VOk.asg (d := (.v (.bool false))) rfl rfl) rfl) ?_
          exact .done (.mk ⟨.same _, .same _, .same _, trivial⟩ trivial)
        refine Ok.le (σ' := ⟨[(2, (S ([] : Str))), (3, (S ([] : Str))), (4, (.v (.bool false)))], []⟩) (.mk ⟨.same _, .same _, .same _, trivial⟩ trivial) ?_
        refine Ok.ret ?_
        obtain rfl := Option.some.inj H
        exact ⟨.inl rfl, ⟨_, (.cons (.tmp rfl) (.cons (.tmp rfl) (.cons (.tmp rfl) .nil))), rfl⟩, trivial⟩

/-! watchbill/watchbillref02.Find: function 17 -/
def watchbillref02_Find.l0 (k : Nat) (a0 : List T_api_Bind) (a1 : Str) : Nat → Str → Bool → Int → Option (Str × Bool)
  | 0, _, _, _ => none
  | m7 + 1, x6_1, x7_2, x8_3 => (if (decide (x8_3 < (a0.length : Int))) = true then (if (0 : Int) ≤ x8_3 ∧ x8_3 < (a0.length : Int) then (if (((rd a0 x8_3).Prefix) == a1) = true then (if (0 : Int) ≤ x8_3 ∧ x8_3 < (a0.length : Int) then watchbillref02_Find.l0 k a0 a1 m7 ((rd a0 x8_3).Space) true (IntKind.i64.wrap (x8_3 + 1)) else none) else watchbillref02_Find.l0 k a0 a1 m7 x6_1 x7_2 (IntKind.i64.wrap (x8_3 + 1))) else none) else some (x6_1, x7_2))
def watchbillref02_Find (k : Nat) (a0 : List T_api_Bind) (a1 : Str) : Option (Str × Bool) := (if (a1 == ([120, 109, 108] : Str)) = true then some (([104, 116, 116, 112, 58, 47, 47, 119, 119, 119, 46, 119, 51, 46, 111, 114, 103, 47, 88, 77, 76, 47, 49, 57, 57, 56, 47, 110, 97, 109, 101, 115, 112, 97, 99, 101] : Str), true) else watchbillref02_Find.l0 k a0 a1 k ([] : Str) (a1 == ([] : Str)) 0)
theorem watchbillref02_Find.ok {k : Nat} {a0 : List T_api_Bind} {a1 : Str} {r : Str × Bool} (H : watchbillref02_Find k a0 a1 = some r) : Vx.Fn Try.prog 17 [(L 2 e_api_Bind a0), (S a1)] [] (.tup [(S r.1), (.v (.bool r.2))]) [] := by
  unfold watchbillref02_Find at H
  refine Vx.Fn.of_okR Try.func17 rfl (Nat.le_of_ble_eq_true rfl) ?_
  refine Ok.seq ?_
  refine Ok.region (σ' := ⟨[(0, (L 2 e_api_Bind a0)), (1, (S a1))], []⟩) ?_ ?_
  · refine OpsOk.cons rfl (.v (VOk.asg (d := (S ([] : Str))) rfl rfl) rfl) ?_
    refine OpsOk.cons rfl (.v (VOk.asg (d := (.v (.bool false))) rfl rfl) rfl) ?_
    exact .done (.mk ⟨.same _, .same _, trivial⟩ trivial)
  refine Ok.seq ?_
  refine Ok.seq ?_
  refine Ok.region (σ' := ⟨[(0, (L 2 e_api_Bind a0)), (1, (S a1)), (10, (.v (.bool (a1 == ([120, 109, 108] : Str)))))], []⟩) ?_ ?_
  · refine OpsOk.cons rfl (.v (VOk.mv (d := (S a1)) rfl rfl) rfl) ?_
    refine OpsOk.cons rfl (.v (VOk.strOp (op := .eql) (a := a1) (b := ([120, 109, 108] : Str)) rfl rfl rfl rfl) rfl) ?_
    exact .done (.mk ⟨.same _, .same _, .same _, trivial⟩ trivial)
  refine Ok.test (b := (a1 == ([120, 109, 108] : Str))) rfl (fun hb12 => ?_) (fun hb12 => ?_)
  · replace H := ifT H hb12
    refine Ok.seq ?_
    refine Ok.region (σ' := ⟨[(4, (S ([104, 116, 116, 112, 58, 47, 47, 119, 119, 119, 46, 119, 51, 46, 111, 114, 103, 47, 88, 77, 76, 47, 49, 57, 57, 56, 47, 110, 97, 109, 101, 115, 112, 97, 99, 101] : Str))), (5, (.v (.bool true)))], []⟩) ?_ ?_
    · refine OpsOk.cons rfl (.v (VOk.asg (d := (S ([104, 116, 116, 112, 58, 47, 47, 119, 119, 119, 46, 119, 51, 46, 111, 114, 103, 47, 88, 77, 76, 47, 49, 57, 57, 56, 47, 110, 97, 109, 101, 115, 112, 97, 99, 101] : Str))) rfl rfl) rfl) ?_
      refine OpsOk.cons rfl (.v (VOk.asg (d := (.v (.bool true))) rfl rfl) rfl) ?_
      exact .done (.mk ⟨.same _, .same _, trivial⟩ trivial)
    refine Ok.le (σ' := ⟨[(4, (S ([104, 116, 116, 112, 58, 47, 47, 119, 119, 119, 46, 119, 51, 46, 111, 114, 103, 47, 88, 77, 76, 47, 49, 57, 57, 56, 47, 110, 97, 109, 101, 115, 112, 97, 99, 101] : Str))), (5, (.v (.bool true)))], []⟩) (.mk ⟨.same _, .same _, trivial⟩ trivial) ?_
    refine Ok.ret ?_
    obtain rfl := Option.some.inj H
    exact ⟨.inl rfl, ⟨_, (.cons (.tmp rfl) (.cons (.tmp rfl) .nil)), rfl⟩, trivial⟩
  · replace H := ifF H hb12
    refine Ok.le (σ' := ⟨[(0, (L 2 e_api_Bind a0)), (1, (S a1))], []⟩) (.mk ⟨.same _, .same _, trivial⟩ trivial) ?_
    refine Ok.skip ?_
    refine Ok.seq ?_
    refine Ok.region (σ' := ⟨[(0, (L 2 e_api_Bind a0)), (1, (S a1)), (6, (S ([] : Str)))], []⟩) ?_ ?_
    · refine OpsOk.cons rfl (.v (VOk.asg (d := (S ([] : Str))) rfl rfl) rfl) ?_
      exact .done (.mk ⟨.same _, .same _, .same _, trivial⟩ trivial)
    refine Ok.seq ?_
    refine Ok.region (σ' := ⟨[(0, (L 2 e_api_Bind a0)), (1, (S a1)), (6, (S ([] : Str))), (7, (.v (.bool (a1 == ([] : Str)))))], []⟩) ?_ ?_
    · refine OpsOk.cons rfl (.v (VOk.mv (d := (S a1)) rfl rfl) rfl) ?_
      refine OpsOk.cons rfl (.v (VOk.strOp (op := .eql) (a := a1) (b := ([] : Str)) rfl rfl rfl rfl) rfl) ?_
      refine OpsOk.cons rfl (.v (VOk.asg (d := (.v (.bool (a1 == ([] : Str))))) rfl rfl) rfl) ?_
      exact .done (.mk ⟨.same _, .same _, .same _, .same _, trivial⟩ trivial)
    refine Ok.seq ?_
    refine Ok.seq ?_
    refine Ok.region (σ' := ⟨[(0, (L 2 e_api_Bind a0)), (1, (S a1)), (6, (S ([] : Str))), (7, (.v (.bool (a1 == ([] : Str))))), (8, (.v (.int .i64 0)))], []⟩) ?_ ?_
    · refine OpsOk.cons rfl (.v (VOk.asg (d := (.v (.int .i64 0))) rfl rfl) rfl) ?_
      exact .done (.mk ⟨.same _, .same _, .same _, .same _, .same _, trivial⟩ trivial)
    refine Ok.block ?_
    refine Ok.le (σ' := ⟨[(0, (L 2 e_api_Bind a0)), (1, (S a1)), (6, (S ([] : Str))), (7, (.v (.bool (a1 == ([] : Str))))), (8, (.v (.int .i64 0)))], []⟩) (.mk ⟨.same _, .same _, .same _, .same _, .same _, trivial⟩ trivial) ?_
    refine Ok.loop (fun m7 σ => ∃ (x6_1 : Str) (x7_2 : Bool) (x8_3 : Int), σ = ⟨[(0, (L 2 e_api_Bind a0)), (1, (S a1)), (6, (S x6_1)), (7, (.v (.bool x7_2))), (8, (.v (.int .i64 x8_3)))], []⟩ ∧ watchbillref02_Find.l0 k a0 a1 m7 x6_1 x7_2 x8_3 = some r) k ⟨([] : Str), (a1 == ([] : Str)), 0, rfl, H⟩ ?_
    rintro m7 σ ⟨x6_1, x7_2, x8_3, rfl, H⟩
    cases m7 with
    | zero => exact absurd H (by simp [watchbillref02_Find.l0])
    | succ m7 =>
      unfold watchbillref02_Find.l0 at H
      refine Ok.seq ?_
      refine Ok.seq ?_
      refine Ok.region (σ' := ⟨[(0, (L 2 e_api_Bind a0)), (1, (S a1)), (6, (S x6_1)), (7, (.v (.bool x7_2))), (8, (.v (.int .i64 x8_3))), (16, (.v (.bool (decide (x8_3 < (a0.length : Int))))))], []⟩) ?_ ?_
      · refine OpsOk.cons rfl (.v (VOk.mv (d := (.v (.int .i64 x8_3))) rfl rfl) rfl) ?_
        refine OpsOk.cons rfl (.v (VOk.mv (d := (L 2 e_api_Bind a0)) rfl rfl) rfl) ?_
        refine OpsOk.cons rfl (.v (VOk.lenL (e := e_api_Bind) (xs := a0) rfl Try.underlying26 rfl) rfl) ?_
        refine OpsOk.cons rfl (.v (VOk.arith (op := .lss) (k := .i64) (a := x8_3) (b := (a0.length : Int)) rfl rfl rfl rfl) rfl) ?_
        exact .done (.mk ⟨.same _, .same _, .same _, .same _, .same _, .same _, trivial⟩ trivial)
      refine Ok.test (b := (decide (x8_3 < (a0.length : Int)))) rfl (fun hb11 => ?_) (fun hb11 => ?_)
      · replace H := ifT H hb11
        refine Ok.le (σ' := ⟨[(0, (L 2 e_api_Bind a0)), (1, (S a1)), (6, (S x6_1)), (7, (.v (.bool x7_2))), (8, (.v (.int .i64 x8_3)))], []⟩) (.mk ⟨.same _, .same _, .same _, .same _, .same _, trivial⟩ trivial) ?_
        refine Ok.skip ?_
        refine Ok.seq ?_
        refine Ok.block ?_
        refine Ok.seq ?_
        obtain ⟨c8, H⟩ := assertE H
        refine Ok.region (σ' := ⟨[(0, (L 2 e_api_Bind a0)), (1, (S a1)), (6, (S x6_1)), (7, (.v (.bool x7_2))), (8, (.v (.int .i64 x8_3))), (25, (.v (.bool (((rd a0 x8_3).Prefix) == a1))))], []⟩) ?_ ?_
        · refine OpsOk.cons rfl (.v (VOk.mv (d := (L 2 e_api_Bind a0)) rfl rfl) rfl) ?_
          refine OpsOk.cons rfl (.v (VOk.mv (d := (.v (.int .i64 x8_3))) rfl rfl) rfl) ?_
          refine OpsOk.cons rfl (.v (VOk.indexL (sz := 2) (e := e_api_Bind) (xs := a0) (i := x8_3) rfl Try.underlying26 sz35 rfl rfl c8) rfl) ?_
          refine OpsOk.cons rfl (.v (VOk.to (VOk.fieldFp rfl Try.underlying35 rfl sz9 rfl) rfl) rfl) ?_
          refine OpsOk.cons rfl (.v (VOk.loadFp (d := (S ((rd a0 x8_3).Prefix))) rfl Try.underlying9 rfl rfl rfl) rfl) ?_
          refine OpsOk.cons rfl (.v (VOk.mv (d := (S a1)) rfl rfl) rfl) ?_
          refine OpsOk.cons rfl (.v (VOk.strOp (op := .eql) (a := (rd a0 x8_3).Prefix) (b := a1) rfl rfl rfl rfl) rfl) ?_
          exact .done (.mk ⟨.same _, .same _, .same _, .same _, .same _, .same _, trivial⟩ trivial)
        refine Ok.test (b := (((rd a0 x8_3).Prefix) == a1)) rfl (fun hb10 => ?_) (fun hb10 => ?_)
        · replace H := ifT H hb10
          refine Ok.seq ?_
          obtain ⟨c9, H⟩ := assertE H
          refine Ok.region (σ' := ⟨[(0, (L 2 e_api_Bind a0)), (1, (S a1)), (6, (S ((rd a0 x8_3).Space))), (8, (.v (.int .i64 x8_3)))], []⟩) ?_ ?_
          · refine OpsOk.cons rfl (.v (VOk.mv (d := (L 2 e_api_Bind a0)) rfl rfl) rfl) ?_
            refine OpsOk.cons rfl (.v (VOk.mv (d := (.v (.int .i64 x8_3))) rfl rfl) rfl) ?_
            refine OpsOk.cons rfl (.v (VOk.indexL (sz := 2) (e := e_api_Bind) (xs := a0) (i := x8_3) rfl Try.underlying26 sz35 rfl rfl c9) rfl) ?_
            refine OpsOk.cons rfl (.v (VOk.to (VOk.fieldFp rfl Try.underlying35 rfl sz9 rfl) rfl) rfl) ?_
            refine OpsOk.cons rfl (.v (VOk.loadFp (d := (S ((rd a0 x8_3).Space))) rfl Try.underlying9 rfl rfl rfl) rfl) ?_
            refine OpsOk.cons rfl (.v (VOk.asg (d := (S ((rd a0 x8_3).Space))) rfl rfl) rfl) ?_
            exact .done (.mk ⟨.same _, .same _, .same _, .same _, trivial⟩ trivial)
          refine Ok.region (σ' := ⟨[(0, (L 2 e_api_Bind a0)), (1, (S a1)), (6, (S ((rd a0 x8_3).Space))), (7, (.v (.bool true))), (8, (.v (.int .i64 x8_3)))], []⟩) ?_ ?_
          · refine OpsOk.cons rfl (.v (VOk.asg (d := (.v (.bool true))) rfl rfl) rfl) ?_
            exact .done (.mk ⟨.same _, .same _, .same _, .same _, .same _, trivial⟩ trivial)
          refine Ok.region (σ' := ⟨[(0, (L 2 e_api_Bind a0)), (1, (S a1)), (6, (S ((rd a0 x8_3).Space))), (7, (.v (.bool true))), (8, (.v (.int .i64 (IntKind.i64.wrap (x8_3 + 1)))))], []⟩) ?_ ?_
          · refine OpsOk.cons rfl (.v (VOk.mv (d := (.v (.int .i64 x8_3))) rfl rfl) rfl) ?_
            refine OpsOk.cons rfl (.v (VOk.arith (op := .add) (k := .i64) (a := x8_3) (b := 1) rfl rfl rfl rfl) rfl) ?_
            refine OpsOk.cons rfl (.v (VOk.asg (d := (.v (.int .i64 (IntKind.i64.wrap (x8_3 + 1))))) rfl rfl) rfl) ?_
            exact .done (.mk ⟨.same _, .same _, .same _, .same _, .same _, trivial⟩ trivial)
          exact ⟨m7, Nat.lt_succ_self m7, ((rd a0 x8_3).Space), true, (IntKind.i64.wrap (x8_3 + 1)), rfl, H⟩
        · replace H := ifF H hb10
          refine Ok.le (σ' := ⟨[(0, (L 2 e_api_Bind a0)), (1, (S a1)), (6, (S x6_1)), (7, (.v (.bool x7_2))), (8, (.v (.int .i64 x8_3)))], []⟩) (.mk ⟨.same _, .same _, .same _, .same _, .same _, trivial⟩ trivial) ?_
          refine Ok.skip ?_
          refine Ok.region (σ' := ⟨[(0, (L 2 e_api_Bind a0)), (1, (S a1)), (6, (S x6_1)), (7, (.v (.bool x7_2))), (8, (.v (.int .i64 (IntKind.i64.wrap (x8_3 + 1)))))], []⟩) ?_ ?_
          · refine OpsOk.cons rfl (.v (VOk.mv (d := (.v (.int .i64 x8_3))) rfl rfl) rfl) ?_
            refine OpsOk.cons rfl (.v (VOk.arith (op := .add) (k := .i64) (a := x8_3) (b := 1) rfl rfl rfl rfl) rfl) ?_
            refine OpsOk.cons rfl (.v (VOk.asg (d := (.v (.int .i64 (IntKind.i64.wrap (x8_3 + 1))))) rfl rfl) rfl) ?_
            exact .done (.mk ⟨.same _, .same _, .same _, .same _, .same _, trivial⟩ trivial)
          exact ⟨m7, Nat.lt_succ_self m7, x6_1, x7_2, (IntKind.i64.wrap (x8_3 + 1)), rfl, H⟩
      · replace H := ifF H hb11
        refine Ok.le (σ' := ⟨[(6, (S x6_1)), (7, (.v (.bool x7_2)))], []⟩) (.mk ⟨.same _, .same _, trivial⟩ trivial) ?_
        refine Ok.exit ?_
        refine Ok.seq ?_
        refine Ok.region (σ' := ⟨[(4, (S x6_1)), (5, (.v (.bool x7_2)))], []⟩) ?_ ?_
        · refine OpsOk.cons rfl (.v (VOk.mv (d := (S x6_1)) rfl rfl) rfl) ?_
          refine OpsOk.cons rfl (.v (VOk.mv (d := (.v (.bool x7_2))) rfl rfl) rfl) ?_
          refine OpsOk.cons rfl (.v (VOk.asg (d := (S x6_1)) rfl rfl) rfl) ?_
          refine OpsOk.cons rfl (.v (VOk.asg (d := (.v (.bool x7_2))) rfl rfl) rfl) ?_
          exact .done (.mk ⟨.same _, .same _, trivial⟩ trivial)
        refine Ok.le (σ' := ⟨[(4, (S x6_1)), (5, (.v (.bool x7_2)))], []⟩) (.mk ⟨.same _, .same _, trivial⟩ trivial) ?_
        refine Ok.ret ?_
        obtain rfl := Option.some.inj H
        exact ⟨.inl rfl, ⟨_, (.cons (.tmp rfl) (.cons (.tmp rfl) .nil)), rfl⟩, trivial⟩

/-! watchbill/watchbillref02.Resolve: function 19 -/
def watchbillref02_Resolve (k : Nat) (a0 : List T_api_Bind) (a1 : Str) (a2 : Bool) : Option (T_api_Name × Int) := ((watchbillref02_Split k a1).bind fun (t1 : Str × Str × Bool) => (if (!t1.2.2) = true then some ((T_api_Name.mk ([] : Str) ([] : Str)), 12) else (if ((t1.1 == ([] : Str)) && a2) = true then some ((T_api_Name.mk ([] : Str) t1.2.1), 0) else ((watchbillref02_Find k a0 t1.1).bind fun (t5 : Str × Bool) => (if ((!t5.2) || (t1.1 == ([120, 109, 108, 110, 115] : Str))) = true then some ((T_api_Name.mk ([] : Str) ([] : Str)), 13) else some ((T_api_Name.mk t5.1 t1.2.1), 0))))))
theorem watchbillref02_Resolve.ok {k : Nat} {a0 : List T_api_Bind} {a1 : Str} {a2 : Bool} {r : T_api_Name × Int} (H : watchbillref02_Resolve k a0 a1 a2 = some r) : Vx.Fn Try.prog 19 [(L 2 e_api_Bind a0), (S a1), (.v (.bool a2))] [] (.tup [(.agg (e_api_Name r.1)), (.v (.int .i64 r.2))]) [] := by
  unfold watchbillref02_Resolve at H
  refine Vx.Fn.of_okR Try.func19 rfl (Nat.le_of_ble_eq_true rfl) ?_
  refine Ok.seq ?_
  refine Ok.region (σ' := ⟨[(0, (L 2 e_api_Bind a0)), (1, (S a1)), (2, (.v (.bool a2))), (6, (.bref 6 0))], [(6, (.box .ex [(S ([] : Str)), (S ([] : Str))]))]⟩) ?_ ?_
  · refine OpsOk.cons rfl (OpOk.alloc 6 [none, none] rfl zo40 rfl rfl) ?_
    refine OpsOk.cons rfl (.v (VOk.asg (d := (.v (.int .i64 0))) rfl rfl) rfl) ?_
    exact .done (.mk ⟨.same _, .same _, .same _, .same _, trivial⟩ ⟨.same _, trivial⟩)
  refine Ok.seq ?_
  obtain ⟨t1, h2, H⟩ := bindE H
  refine Ok.region (σ' := ⟨[(0, (L 2 e_api_Bind a0)), (2, (.v (.bool a2))), (6, (.bref 6 0)), (8, (S t1.1)), (9, (S t1.2.1)), (10, (.v (.bool t1.2.2)))], [(6, (.box .ex [(S ([] : Str)), (S ([] : Str))]))]⟩) ?_ ?_
  · refine OpsOk.cons rfl (.v (VOk.mv (d := (S a1)) rfl rfl) rfl) ?_
    refine OpsOk.cons rfl (.g (GOk.call rfl rfl cl11 rfl (watchbillref02_Split.ok h2) rfl) rfl) ?_
    refine OpsOk.cons rfl (.v (VOk.mv (d := (.tup [(S t1.1), (S t1.2.1), (.v (.bool t1.2.2))])) rfl rfl) rfl) ?_
    refine OpsOk.cons rfl (.v (VOk.extract (d := (S t1.1)) rfl rfl rfl) rfl) ?_
    refine OpsOk.cons rfl (.v (VOk.extract (d := (S t1.2.1)) rfl rfl rfl) rfl) ?_
    refine OpsOk.cons rfl (.v (VOk.extract (d := (.v (.bool t1.2.2))) rfl rfl rfl) rfl) ?_
    refine OpsOk.cons rfl (.v (VOk.asg (d := (S t1.1)) rfl rfl) rfl) ?_
    refine OpsOk.cons rfl (.v (VOk.asg (d := (S t1.2.1)) rfl rfl) rfl) ?_
    refine OpsOk.cons rfl (.v (VOk.asg (d := (.v (.bool t1.2.2))) rfl rfl) rfl) ?_
    exact .done (.mk ⟨.same _, .same _, .same _, .same _, .same _, .same _, trivial⟩ ⟨.same _, trivial⟩)
  refine Ok.seq ?_
  refine Ok.seq ?_
  refine Ok.region (σ' := ⟨[(0, (L 2 e_api_Bind a0)), (2, (.v (.bool a2))), (6, (.bref 6 0)), (8, (S t1.1)), (9, (S t1.2.1)), (20, (.v (.bool (!t1.2.2))))], [(6, (.box .ex [(S ([] : Str)), (S ([] : Str))]))]⟩) ?_ ?_
  · refine OpsOk.cons rfl (.v (VOk.mv (d := (.v (.bool t1.2.2))) rfl rfl) rfl) ?_
    refine OpsOk.cons rfl (.v (VOk.not (b := t1.2.2) rfl rfl) rfl) ?_
    exact .done (.mk ⟨.same _, .same _, .same _, .same _, .same _, .same _, trivial⟩ ⟨.same _, trivial⟩)
  refine Ok.test (b := (!t1.2.2)) rfl (fun hb11 => ?_) (fun hb11 => ?_)
  · replace H := ifT H hb11
    refine Ok.seq ?_
    refine Ok.region (σ' := ⟨[(6, (.bref 6 0)), (7, (.v (.int .i64 12)))], [(6, (.box .ex [(S ((T_api_Name.mk ([] : Str) ([] : Str)).Space)), (S ((T_api_Name.mk ([] : Str) ([] : Str)).Local))]))]⟩) ?_ ?_
    · refine OpsOk.cons rfl (.v (VOk.to (d' := (.agg (e_api_Name (T_api_Name.mk ([] : Str) ([] : Str))))) (.build [none, none] [(0, 1), (1, 1)] rfl Try.underlying40 (fa40 Try.underlying40) zo40 rfl rfl) rfl) rfl) ?_
      refine OpsOk.cons rfl (OpOk.to (σ2 := St.put ⟨_, (6, (.box .ex [(S ((T_api_Name.mk ([] : Str) ([] : Str)).Space)), (S ((T_api_Name.mk ([] : Str) ([] : Str)).Local))])) :: _⟩ _ .junk) (.storeB rfl sz40 rfl rfl rfl rfl rfl rfl) rfl) ?_
      refine OpsOk.cons rfl (.v (VOk.asg (d := (.v (.int .i64 12))) rfl rfl) rfl) ?_
      exact .done (.mk ⟨.same _, .same _, trivial⟩ ⟨.same _, trivial⟩)
    refine Ok.le (σ' := ⟨[(6, (.bref 6 0)), (7, (.v (.int .i64 12)))], [(6, (.box .ex [(S ((T_api_Name.mk ([] : Str) ([] : Str)).Space)), (S ((T_api_Name.mk ([] : Str) ([] : Str)).Local))]))]⟩) (.mk ⟨.same _, .same _, trivial⟩ ⟨.same _, trivial⟩) ?_
    refine Ok.ret ?_
    obtain rfl := Option.some.inj H
    exact ⟨.inl rfl, ⟨_, (.cons (.cell (VOk.to (d' := (.agg (e_api_Name (T_api_Name.mk ([] : Str) ([] : Str))))) (.loadBAgg rfl Try.underlying40 rfl sz40 rfl rfl rfl) rfl)) (.cons (.tmp rfl) .nil)), rfl⟩, trivial⟩
  · replace H := ifF H hb11
    refine Ok.le (σ' := ⟨[(0, (L 2 e_api_Bind a0)), (2, (.v (.bool a2))), (6, (.bref 6 0)), (8, (S t1.1)), (9, (S t1.2.1))], [(6, (.box .ex [(S ([] : Str)), (S ([] : Str))]))]⟩) (.mk ⟨.same _, .same _, .same _, .same _, .same _, trivial⟩ ⟨.same _, trivial⟩) ?_
    refine Ok.skip ?_
    refine Ok.seq ?_
    refine Ok.seq ?_
    refine Ok.region (σ' := ⟨[(0, (L 2 e_api_Bind a0)), (6, (.bref 6 0)), (8, (S t1.1)), (9, (S t1.2.1)), (26, (.v (.bool ((t1.1 == ([] : Str)) && a2))))], [(6, (.box .ex [(S ([] : Str)), (S ([] : Str))]))]⟩) ?_ ?_
    · refine OpsOk.cons rfl (.v (VOk.mv (d := (S t1.1)) rfl rfl) rfl) ?_
      refine OpsOk.cons rfl (.v (VOk.strOp (op := .eql) (a := t1.1) (b := ([] : Str)) rfl rfl rfl rfl) rfl) ?_
      refine OpsOk.cons rfl (.v (VOk.mv (d := (.v (.bool (t1.1 == ([] : Str))))) rfl rfl) rfl) ?_
      refine OpsOk.consI rfl rfl rfl (.one rfl) rfl (fun hw3 => (VOk.g (VOk.mv (d := (.v (.bool a2))) rfl rfl))) ?_
      refine OpsOk.cons rfl (.v (VOk.to (VOk.pickI (b := (t1.1 == ([] : Str))) (p := a2) (q := false) rfl rfl (fun hp4 => (cT (t_beq hp4))) (fun hp4 => rfl)) (pickAnd (t1.1 == ([] : Str)) a2)) rfl) ?_
      exact .done (.mk ⟨.same _, .same _, .same _, .same _, .same _, trivial⟩ ⟨.same _, trivial⟩)
    refine Ok.test (b := ((t1.1 == ([] : Str)) && a2)) rfl (fun hb10 => ?_) (fun hb10 => ?_)
    · replace H := ifT H hb10
      refine Ok.seq ?_
      refine Ok.region (σ' := ⟨[(6, (.bref 6 0)), (7, (.v (.int .i64 0)))], [(6, (.box .ex [(S ((T_api_Name.mk ([] : Str) t1.2.1).Space)), (S ((T_api_Name.mk ([] : Str) t1.2.1).Local))]))]⟩) ?_ ?_
      · refine OpsOk.cons rfl (.v (VOk.mv (d := (S t1.2.1)) rfl rfl) rfl) ?_
        refine OpsOk.cons rfl (.v (VOk.to (d' := (.agg (e_api_Name (T_api_Name.mk ([] : Str) t1.2.1)))) (.build [none, none] [(0, 1), (1, 1)] rfl Try.underlying40 (fa40 Try.underlying40) zo40 rfl rfl) rfl) rfl) ?_
        refine OpsOk.cons rfl (OpOk.to (σ2 := St.put ⟨_, (6, (.box .ex [(S ((T_api_Name.mk ([] : Str) t1.2.1).Space)), (S ((T_api_Name.mk ([] : Str) t1.2.1).Local))])) :: _⟩ _ .junk) (.storeB rfl sz40 rfl rfl rfl rfl rfl rfl) rfl) ?_
        refine OpsOk.cons rfl (.v (VOk.asg (d := (.v (.int .i64 0))) rfl rfl) rfl) ?_
        exact .done (.mk ⟨.same _, .same _, trivial⟩ ⟨.same _, trivial⟩)
      refine Ok.le (σ' := ⟨[(6, (.bref 6 0)), (7, (.v (.int .i64 0)))], [(6, (.box .ex [(S ((T_api_Name.mk ([] : Str) t1.2.1).Space)), (S ((T_api_Name.mk ([] : Str) t1.2.1).Local))]))]⟩) (.mk ⟨.same _, .same _, trivial⟩ ⟨.same _, trivial⟩) ?_
      refine Ok.ret ?_
      obtain rfl := Option.some.inj H
      exact ⟨.inl rfl, ⟨_, (.cons (.cell (VOk.to (d' := (.agg (e_api_Name (T_api_Name.mk ([] : Str) t1.2.1)))) (.loadBAgg rfl Try.underlying40 rfl sz40 rfl rfl rfl) rfl)) (.cons (.tmp rfl) .nil)), rfl⟩, trivial⟩
    · replace H := ifF H hb10
      refine Ok.le (σ' := ⟨[(0, (L 2 e_api_Bind a0)), (6, (.bref 6 0)), (8, (S t1.1)), (9, (S t1.2.1))], [(6, (.box .ex [(S ([] : Str)), (S ([] : Str))]))]⟩) (.mk ⟨.same _, .same _, .same _, .same _, trivial⟩ ⟨.same _, trivial⟩) ?_
      refine Ok.skip ?_
      refine Ok.seq ?_
      obtain ⟨t5, h6, H⟩ := bindE H
      refine Ok.region (σ' := ⟨[(6, (.bref 6 0)), (8, (S t1.1)), (9, (S t1.2.1)), (11, (S t5.1)), (12, (.v (.bool t5.2)))], [(6, (.box .ex [(S ([] : Str)), (S ([] : Str))]))]⟩) ?_ ?_
      · refine OpsOk.cons rfl (.v (VOk.mv (d := (L 2 e_api_Bind a0)) rfl rfl) rfl) ?_
        refine OpsOk.cons rfl (.v (VOk.mv (d := (S t1.1)) rfl rfl) rfl) ?_
        refine OpsOk.cons rfl (.g (GOk.call rfl rfl cl17 rfl (watchbillref02_Find.ok h6) rfl) rfl) ?_
        refine OpsOk.cons rfl (.v (VOk.mv (d := (.tup [(S t5.1), (.v (.bool t5.2))])) rfl rfl) rfl) ?_
        refine OpsOk.cons rfl (.v (VOk.extract (d := (S t5.1)) rfl rfl rfl) rfl) ?_
        refine OpsOk.cons rfl (.v (VOk.extract (d := (.v (.bool t5.2))) rfl rfl rfl) rfl) ?_
        refine OpsOk.cons rfl (.v (VOk.asg (d := (S t5.1)) rfl rfl) rfl) ?_
        refine OpsOk.cons rfl (.v (VOk.asg (d := (.v (.bool t5.2))) rfl rfl) rfl) ?_
        exact .done (.mk ⟨.same _, .same _, .same _, .same _, .same _, trivial⟩ ⟨.same _, trivial⟩)
      refine Ok.seq ?_
      refine Ok.seq ?_
      refine Ok.region (σ' := ⟨[(6, (.bref 6 0)), (9, (S t1.2.1)), (11, (S t5.1)), (40, (.v (.bool ((!t5.2) || (t1.1 == ([120, 109, 108, 110, 115] : Str))))))], [(6, (.box .ex [(S ([] : Str)), (S ([] : Str))]))]⟩) ?_ ?_
      · refine OpsOk.cons rfl (.v (VOk.mv (d := (.v (.bool t5.2))) rfl rfl) rfl) ?_
        refine OpsOk.cons rfl (.v (VOk.not (b := t5.2) rfl rfl) rfl) ?_
        refine OpsOk.cons rfl (.v (VOk.mv (d := (.v (.bool (!t5.2)))) rfl rfl) rfl) ?_
        refine OpsOk.consI rfl rfl rfl (.one rfl) rfl (fun hw7 => (VOk.g (VOk.mv (d := (S t1.1)) rfl rfl))) ?_
        refine OpsOk.consI rfl rfl rfl (.one rfl) rfl (fun hw7 => (GOk.fr (fr' := [(38, (S t1.1))]) ⟨DLe.of_eq (cT hw7).symm, trivial⟩ (VOk.g (VOk.strOp (op := .eql) (a := t1.1) (b := ([120, 109, 108, 110, 115] : Str)) rfl rfl rfl rfl)))) ?_
        refine OpsOk.cons rfl (.v (VOk.to (VOk.pickI (b := (!t5.2)) (p := true) (q := (t1.1 == ([120, 109, 108, 110, 115] : Str))) rfl rfl (fun hp8 => rfl) (fun hp8 => (cT (f_beq hp8)))) (pickOr (!t5.2) (t1.1 == ([120, 109, 108, 110, 115] : Str)))) rfl) ?_
        exact .done (.mk ⟨.same _, .same _, .same _, .same _, trivial⟩ ⟨.same _, trivial⟩)
      refine Ok.test (b := ((!t5.2) || (t1.1 == ([120, 109, 108, 110, 115] : Str)))) rfl (fun hb9 => ?_) (fun hb9 => ?_)
      · replace H := ifT H hb9
        refine Ok.seq ?_
        refine Ok.region (σ' := ⟨[(6, (.bref 6 0)), (7, (.v (.int .i64 13)))], [(6, (.box .ex [(S ((T_api_Name.mk ([] : Str) ([] : Str)).Space)), (S ((T_api_Name.mk ([] : Str) ([] : Str)).Local))]))]⟩) ?_ ?_
        · refine OpsOk.cons rfl (.v (VOk.to (d' := (.agg (e_api_Name (T_api_Name.mk ([] : Str) ([] : Str))))) (.build [none, none] [(0, 1), (1, 1)] rfl Try.underlying40 (fa40 Try.underlying40) zo40 rfl rfl) rfl) rfl) ?_
          refine OpsOk.cons rfl (OpOk.to (σ2 := St.put ⟨_, (6, (.box .ex [(S ((T_api_Name.mk ([] : Str) ([] : Str)).Space)), (S ((T_api_Name.mk ([] : Str) ([] : Str)).Local))])) :: _⟩ _ .junk) (.storeB rfl sz40 rfl rfl rfl rfl rfl rfl) rfl) ?_
          refine OpsOk.cons rfl (.v (VOk.asg (d := (.v (.int .i64 13))) rfl rfl) rfl) ?_
          exact .done (.mk ⟨.same _, .same _, trivial⟩ ⟨.same _, trivial⟩)
        refine Ok.le (σ' := ⟨[(6, (.bref 6 0)), (7, (.v (.int .i64 13)))], [(6, (.box .ex [(S ((T_api_Name.mk ([] : Str) ([] : Str)).Space)), (S ((T_api_Name.mk ([] : Str) ([] : Str)).Local))]))]⟩) (.mk ⟨.same _, .same _, trivial⟩ ⟨.same _, trivial⟩) ?_
        refine Ok.ret ?_
        obtain rfl := Option.some.inj H
        exact ⟨.inl rfl, ⟨_, (.cons (.cell (VOk.to (d' := (.agg (e_api_Name (T_api_Name.mk ([] : Str) ([] : Str))))) (.loadBAgg rfl Try.underlying40 rfl sz40 rfl rfl rfl) rfl)) (.cons (.tmp rfl) .nil)), rfl⟩, trivial⟩
      · replace H := ifF H hb9
        refine Ok.le (σ' := ⟨[(6, (.bref 6 0)), (9, (S t1.2.1)), (11, (S t5.1))], [(6, (.box .ex [(S ([] : Str)), (S ([] : Str))]))]⟩) (.mk ⟨.same _, .same _, .same _, trivial⟩ ⟨.same _, trivial⟩) ?_
        refine Ok.skip ?_
        refine Ok.seq ?_
        refine Ok.region (σ' := ⟨[(6, (.bref 6 0)), (7, (.v (.int .i64 0)))], [(6, (.box .ex [(S ((T_api_Name.mk t5.1 t1.2.1).Space)), (S ((T_api_Name.mk t5.1 t1.2.1).Local))]))]⟩) ?_ ?_
        · refine OpsOk.cons rfl (.v (VOk.mv (d := (S t5.1)) rfl rfl) rfl) ?_
          refine OpsOk.cons rfl (.v (VOk.mv (d := (S t1.2.1)) rfl rfl) rfl) ?_
          refine OpsOk.cons rfl (.v (VOk.to (d' := (.agg (e_api_Name (T_api_Name.mk t5.1 t1.2.1)))) (.build [none, none] [(0, 1), (1, 1)] rfl Try.underlying40 (fa40 Try.underlying40) zo40 rfl rfl) rfl) rfl) ?_
          refine OpsOk.cons rfl (OpOk.to (σ2 := St.put ⟨_, (6, (.box .ex [(S ((T_api_Name.mk t5.1 t1.2.1).Space)), (S ((T_api_Name.mk t5.1 t1.2.1).Local))])) :: _⟩ _ .junk) (.storeB rfl sz40 rfl rfl rfl rfl rfl rfl) rfl) ?_
          refine OpsOk.cons rfl (.v (VOk.asg (d := (.v (.int .i64 0))) rfl rfl) rfl) ?_
          exact .done (.mk ⟨.same _, .same _, trivial⟩ ⟨.same _, trivial⟩)
        refine Ok.le (σ' := ⟨[(6, (.bref 6 0)), (7, (.v (.int .i64 0)))], [(6, (.box .ex [(S ((T_api_Name.mk t5.1 t1.2.1).Space)), (S ((T_api_Name.mk t5.1 t1.2.1).Local))]))]⟩) (.mk ⟨.same _, .same _, trivial⟩ ⟨.same _, trivial⟩) ?_
        refine Ok.ret ?_
        obtain rfl := Option.some.inj H
        exact ⟨.inl rfl, ⟨_, (.cons (.cell (VOk.to (d' := (.agg (e_api_Name (T_api_Name.mk t5.1 t1.2.1)))) (.loadBAgg rfl Try.underlying40 rfl sz40 rfl rfl rfl) rfl)) (.cons (.tmp rfl) .nil)), rfl⟩, trivial⟩

/-! watchbill/watchbillref02.Attrs: function 24 -/
def watchbillref02_Attrs.l1 (k : Nat) (c0 : List T_api_Attr → Int → Option ((List T_api_Attr) × Int)) (a0 : List T_api_Bind) (a1 : List T_api_Raw) (x7_1 : Int) : Nat → Str → Str → List T_api_Attr → Int → Option ((List T_api_Attr) × Int)
  | 0, _, _, _, _ => none
  | m17 + 1, y8_0_11, y8_1_12, y6_10, x10_9 => (if (decide (x10_9 < (y6_10.length : Int))) = true then (if (0 : Int) ≤ x10_9 ∧ x10_9 < (y6_10.length : Int) then (if (((rd y6_10 x10_9).Name).Space == (T_api_Name.mk y8_0_11 y8_1_12).Space && (((rd y6_10 x10_9).Name).Local == (T_api_Name.mk y8_0_11 y8_1_12).Local && true)) = true then some (([] : List T_api_Attr), 14) else watchbillref02_Attrs.l1 k c0 a0 a1 x7_1 m17 y8_0_11 y8_1_12 y6_10 (IntKind.i64.wrap (x10_9 + 1))) else none) else (if (0 : Int) ≤ x7_1 ∧ x7_1 < (a1.length : Int) then (if (y6_10.length + ([(T_api_Attr.mk (T_api_Name.mk ((T_api_Name.mk y8_0_11 y8_1_12).Space) ((T_api_Name.mk y8_0_11 y8_1_12).Local)) ((rd a1 x7_1).Value))] : List T_api_Attr).length) * 48 ≤ 140737488355328 then c0 (y6_10 ++ ([(T_api_Attr.mk (T_api_Name.mk ((T_api_Name.mk y8_0_11 y8_1_12).Space) ((T_api_Name.mk y8_0_11 y8_1_12).Local)) ((rd a1 x7_1).Value))] : List T_api_Attr)) (IntKind.i64.wrap (x7_1 + 1)) else none) else none))
def watchbillref02_Attrs.l0 (k : Nat) (a0 : List T_api_Bind) (a1 : List T_api_Raw) : Nat → List T_api_Attr → Int → Option ((List T_api_Attr) × Int)
  | 0, _, _ => none
  | m5 + 1, y6_2, x7_1 => (if (decide (x7_1 < (a1.length : Int))) = true then (if (0 : Int) ≤ x7_1 ∧ x7_1 < (a1.length : Int) then ((watchbillref02_Resolve k a0 ((rd a1 x7_1).Name) true).bind fun (t7 : T_api_Name × Int) => (if (t7.2 != 0) = true then some (([] : List T_api_Attr), t7.2) else watchbillref02_Attrs.l1 k (watchbillref02_Attrs.l0 k a0 a1 m5) a0 a1 x7_1 k t7.1.Space t7.1.Local y6_2 0)) else none) else some (y6_2, 0))
def watchbillref02_Attrs (k : Nat) (a0 : List T_api_Bind) (a1 : List T_api_Raw) : Option ((List T_api_Attr) × Int) := watchbillref02_Attrs.l0 k a0 a1 k ([] : List T_api_Attr) 0
theorem watchbillref02_Attrs.ok {k : Nat} {a0 : List T_api_Bind} {a1 : List T_api_Raw} {r : (List T_api_Attr) × Int} (H : watchbillref02_Attrs k a0 a1 = some r) : Vx.Fn Try.prog 24 [(L 2 e_api_Bind a0), (L 2 e_api_Raw a1)] [] (.tup [(L 3 e_api_Attr r.1), (.v (.int .i64 r.2))]) [] := by
  unfold watchbillref02_Attrs at H
  refine Vx.Fn.of_okR Try.func24 rfl (Nat.le_of_ble_eq_true rfl) ?_
  refine Ok.seq ?_
  refine Ok.region (σ' := ⟨[(0, (L 2 e_api_Bind a0)), (1, (L 2 e_api_Raw a1))], []⟩) ?_ ?_
  · refine OpsOk.cons rfl (.v (VOk.asg (d := (.v (.slice none 0 0))) rfl rfl) rfl) ?_
    refine OpsOk.cons rfl (.v (VOk.asg (d := (.v (.int .i64 0))) rfl rfl) rfl) ?_
    exact .done (.mk ⟨.same _, .same _, trivial⟩ trivial)
  refine Ok.seq ?_
  refine Ok.region (σ' := ⟨[(0, (L 2 e_api_Bind a0)), (1, (L 2 e_api_Raw a1)), (6, (.sref 6))], [(6, (.rows true 54 3 (([] : List T_api_Attr).map e_api_Attr)))]⟩) ?_ ?_
  · refine OpsOk.cons rfl (.nilT 6 54 3 (.inl rfl) rfl rfl) ?_
    exact .done (.mk ⟨.same _, .same _, .same _, trivial⟩ ⟨.same _, trivial⟩)
  refine Ok.seq ?_
  refine Ok.seq ?_
  refine Ok.region (σ' := ⟨[(0, (L 2 e_api_Bind a0)), (1, (L 2 e_api_Raw a1)), (6, (.sref 6)), (7, (.v (.int .i64 0)))], [(6, (.rows true 54 3 (([] : List T_api_Attr).map e_api_Attr)))]⟩) ?_ ?_
  · refine OpsOk.cons rfl (.v (VOk.asg (d := (.v (.int .i64 0))) rfl rfl) rfl) ?_
    exact .done (.mk ⟨.same _, .same _, .same _, .same _, trivial⟩ ⟨.same _, trivial⟩)
  refine Ok.block ?_
  refine Ok.le (σ' := ⟨[(0, (L 2 e_api_Bind a0)), (1, (L 2 e_api_Raw a1)), (6, (.sref 6)), (7, (.v (.int .i64 0)))], [(6, (.rows true 54 3 (([] : List T_api_Attr).map e_api_Attr)))]⟩) (.mk ⟨.same _, .same _, .same _, .same _, trivial⟩ ⟨.same _, trivial⟩) ?_
  refine Ok.loop (fun m5 σ => ∃ (y6_2 : List T_api_Attr) (x7_1 : Int), σ = ⟨[(0, (L 2 e_api_Bind a0)), (1, (L 2 e_api_Raw a1)), (6, (.sref 6)), (7, (.v (.int .i64 x7_1)))], [(6, (.rows true 54 3 (y6_2.map e_api_Attr)))]⟩ ∧ watchbillref02_Attrs.l0 k a0 a1 m5 y6_2 x7_1 = some r) k ⟨([] : List T_api_Attr), 0, rfl, H⟩ ?_
  rintro m5 σ ⟨y6_2, x7_1, rfl, H⟩
  cases m5 with
  | zero => exact absurd H (by simp [watchbillref02_Attrs.l0])
  | succ m5 =>
    unfold watchbillref02_Attrs.l0 at H
    refine Ok.seq ?_
    refine Ok.seq ?_
    refine Ok.region (σ' := ⟨[(0, (L 2 e_api_Bind a0)), (1, (L 2 e_api_Raw a1)), (6, (.sref 6)), (7, (.v (.int .i64 x7_1))), (14, (.v (.bool (decide (x7_1 < (a1.length : Int))))))], [(6, (.rows true 54 3 (y6_2.map e_api_Attr)))]⟩) ?_ ?_
    · refine OpsOk.cons rfl (.v (VOk.mv (d := (.v (.int .i64 x7_1))) rfl rfl) rfl) ?_
      refine OpsOk.cons rfl (.v (VOk.mv (d := (L 2 e_api_Raw a1)) rfl rfl) rfl) ?_
      refine OpsOk.cons rfl (.v (VOk.lenL (e := e_api_Raw) (xs := a1) rfl Try.underlying46 rfl) rfl) ?_
      refine OpsOk.cons rfl (.v (VOk.arith (op := .lss) (k := .i64) (a := x7_1) (b := (a1.length : Int)) rfl rfl rfl rfl) rfl) ?_
      exact .done (.mk ⟨.same _, .same _, .same _, .same _, .same _, trivial⟩ ⟨.same _, trivial⟩)
    refine Ok.test (b := (decide (x7_1 < (a1.length : Int)))) rfl (fun hb24 => ?_) (fun hb24 => ?_)
    · replace H := ifT H hb24
      refine Ok.le (σ' := ⟨[(0, (L 2 e_api_Bind a0)), (1, (L 2 e_api_Raw a1)), (6, (.sref 6)), (7, (.v (.int .i64 x7_1)))], [(6, (.rows true 54 3 (y6_2.map e_api_Attr)))]⟩) (.mk ⟨.same _, .same _, .same _, .same _, trivial⟩ ⟨.same _, trivial⟩) ?_
      refine Ok.skip ?_
      refine Ok.seq ?_
      refine Ok.block ?_
      refine Ok.seq ?_
      obtain ⟨c6, H⟩ := assertE H
      obtain ⟨t7, h8, H⟩ := bindE H
      refine Ok.region (σ' := ⟨[(0, (L 2 e_api_Bind a0)), (1, (L 2 e_api_Raw a1)), (6, (.sref 6)), (7, (.v (.int .i64 x7_1))), (8, (.bref 8 0)), (9, (.v (.int .i64 t7.2)))], [(6, (.rows true 54 3 (y6_2.map e_api_Attr))), (8, (.box .ex [(S t7.1.Space), (S t7.1.Local)]))]⟩) ?_ ?_
      · refine OpsOk.cons rfl (.v (VOk.mv (d := (L 2 e_api_Bind a0)) rfl rfl) rfl) ?_
        refine OpsOk.cons rfl (.v (VOk.mv (d := (L 2 e_api_Raw a1)) rfl rfl) rfl) ?_
        refine OpsOk.cons rfl (.v (VOk.mv (d := (.v (.int .i64 x7_1))) rfl rfl) rfl) ?_
        refine OpsOk.cons rfl (.v (VOk.indexL (sz := 2) (e := e_api_Raw) (xs := a1) (i := x7_1) rfl Try.underlying46 sz49 rfl rfl c6) rfl) ?_
        refine OpsOk.cons rfl (.v (VOk.to (VOk.fieldFp rfl Try.underlying49 rfl sz9 rfl) rfl) rfl) ?_
        refine OpsOk.cons rfl (.v (VOk.loadFp (d := (S ((rd a1 x7_1).Name))) rfl Try.underlying9 rfl rfl rfl) rfl) ?_
        refine OpsOk.cons rfl (.g (GOk.call rfl rfl cl19 rfl (watchbillref02_Resolve.ok h8) rfl) rfl) ?_
        refine OpsOk.cons rfl (.v (VOk.mv (d := (.tup [(.agg (e_api_Name t7.1)), (.v (.int .i64 t7.2))])) rfl rfl) rfl) ?_
        refine OpsOk.cons rfl (.v (VOk.extract (d := (.agg (e_api_Name t7.1))) rfl rfl rfl) rfl) ?_
        refine OpsOk.cons rfl (.v (VOk.extract (d := (.v (.int .i64 t7.2))) rfl rfl rfl) rfl) ?_
        refine OpsOk.cons rfl (OpOk.alloc 8 [none, none] rfl zo40 rfl rfl) ?_
        refine OpsOk.cons rfl (OpOk.to (σ2 := St.put ⟨_, (8, (.box .ex [(S t7.1.Space), (S t7.1.Local)])) :: _⟩ _ .junk) (.storeB rfl sz40 rfl rfl rfl rfl rfl rfl) rfl) ?_
        refine OpsOk.cons rfl (.v (VOk.asg (d := (.v (.int .i64 t7.2))) rfl rfl) rfl) ?_
        exact .done (.mk ⟨.same _, .same _, .same _, .same _, .same _, .same _, trivial⟩ ⟨.same _, .same _, trivial⟩)
      refine Ok.seq ?_
      refine Ok.seq ?_
      refine Ok.region (σ' := ⟨[(0, (L 2 e_api_Bind a0)), (1, (L 2 e_api_Raw a1)), (6, (.sref 6)), (7, (.v (.int .i64 x7_1))), (8, (.bref 8 0)), (9, (.v (.int .i64 t7.2))), (28, (.v (.bool (t7.2 != 0))))], [(6, (.rows true 54 3 (y6_2.map e_api_Attr))), (8, (.box .ex [(S t7.1.Space), (S t7.1.Local)]))]⟩) ?_ ?_
      · refine OpsOk.cons rfl (.v (VOk.mv (d := (.v (.int .i64 t7.2))) rfl rfl) rfl) ?_
        refine OpsOk.cons rfl (.v (VOk.arith (op := .neq) (k := .i64) (a := t7.2) (b := 0) rfl rfl rfl rfl) rfl) ?_
        exact .done (.mk ⟨.same _, .same _, .same _, .same _, .same _, .same _, .same _, trivial⟩ ⟨.same _, .same _, trivial⟩)
      refine Ok.test (b := (t7.2 != 0)) rfl (fun hb23 => ?_) (fun hb23 => ?_)
      · replace H := ifT H hb23
        refine Ok.seq ?_
        refine Ok.region (σ' := ⟨[(4, (.v (.slice none 0 0))), (5, (.v (.int .i64 t7.2)))], []⟩) ?_ ?_
        · refine OpsOk.cons rfl (.v (VOk.mv (d := (.v (.int .i64 t7.2))) rfl rfl) rfl) ?_
          refine OpsOk.cons rfl (.v (VOk.asg (d := (.v (.slice none 0 0))) rfl rfl) rfl) ?_
          refine OpsOk.cons rfl (.v (VOk.asg (d := (.v (.int .i64 t7.2))) rfl rfl) rfl) ?_
          exact .done (.mk ⟨.same _, .same _, trivial⟩ trivial)
        refine Ok.le (σ' := ⟨[(4, (L 3 e_api_Attr ([] : List T_api_Attr))), (5, (.v (.int .i64 t7.2)))], []⟩) (.mk ⟨.nil _, .same _, trivial⟩ trivial) ?_
        refine Ok.ret ?_
        obtain rfl := Option.some.inj H
        exact ⟨.inl rfl, ⟨_, (.cons (.tmp rfl) (.cons (.tmp rfl) .nil)), rfl⟩, trivial⟩
      · replace H := ifF H hb23
        refine Ok.le (σ' := ⟨[(0, (L 2 e_api_Bind a0)), (1, (L 2 e_api_Raw a1)), (6, (.sref 6)), (7, (.v (.int .i64 x7_1))), (8, (.bref 8 0))], [(6, (.rows true 54 3 (y6_2.map e_api_Attr))), (8, (.box .ex [(S t7.1.Space), (S t7.1.Local)]))]⟩) (.mk ⟨.same _, .same _, .same _, .same _, .same _, trivial⟩ ⟨.same _, .same _, trivial⟩) ?_
        refine Ok.skip ?_
        refine Ok.seq ?_
        refine Ok.seq ?_
        refine Ok.region (σ' := ⟨[(0, (L 2 e_api_Bind a0)), (1, (L 2 e_api_Raw a1)), (6, (.sref 6)), (7, (.v (.int .i64 x7_1))), (8, (.bref 8 0)), (10, (.v (.int .i64 0)))], [(6, (.rows true 54 3 (y6_2.map e_api_Attr))), (8, (.box .ex [(S t7.1.Space), (S t7.1.Local)]))]⟩) ?_ ?_
        · refine OpsOk.cons rfl (.v (VOk.asg (d := (.v (.int .i64 0))) rfl rfl) rfl) ?_
          exact .done (.mk ⟨.same _, .same _, .same _, .same _, .same _, .same _, trivial⟩ ⟨.same _, .same _, trivial⟩)
        refine Ok.block ?_
        refine Ok.le (σ' := ⟨[(0, (L 2 e_api_Bind a0)), (1, (L 2 e_api_Raw a1)), (6, (.sref 6)), (7, (.v (.int .i64 x7_1))), (8, (.bref 8 0)), (10, (.v (.int .i64 0)))], [(6, (.rows true 54 3 (y6_2.map e_api_Attr))), (8, (.box .ex [(S t7.1.Space), (S t7.1.Local)]))]⟩) (.mk ⟨.same _, .same _, .same _, .same _, .same _, .same _, trivial⟩ ⟨.same _, .same _, trivial⟩) ?_
        refine Ok.loop (fun m17 σ => ∃ (y8_0_11 : Str) (y8_1_12 : Str) (y6_10 : List T_api_Attr) (x10_9 : Int), σ = ⟨[(0, (L 2 e_api_Bind a0)), (1, (L 2 e_api_Raw a1)), (6, (.sref 6)), (7, (.v (.int .i64 x7_1))), (8, (.bref 8 0)), (10, (.v (.int .i64 x10_9)))], [(6, (.rows true 54 3 (y6_10.map e_api_Attr))), (8, (.box .ex [(S y8_0_11), (S y8_1_12)]))]⟩ ∧ watchbillref02_Attrs.l1 k (watchbillref02_Attrs.l0 k a0 a1 m5) a0 a1 x7_1 m17 y8_0_11 y8_1_12 y6_10 x10_9 = some r) k ⟨t7.1.Space, t7.1.Local, y6_2, 0, rfl, H⟩ ?_
        rintro m17 σ ⟨y8_0_11, y8_1_12, y6_10, x10_9, rfl, H⟩
        cases m17 with
        | zero => exact absurd H (by simp [watchbillref02_Attrs.l1])
        | succ m17 =>
          unfold watchbillref02_Attrs.l1 at H
          refine Ok.seq ?_
          refine Ok.seq ?_
          refine Ok.region (σ' := ⟨[(0, (L 2 e_api_Bind a0)), (1, (L 2 e_api_Raw a1)), (6, (.sref 6)), (7, (.v (.int .i64 x7_1))), (8, (.bref 8 0)), (10, (.v (.int .i64 x10_9))), (33, (.v (.bool (decide (x10_9 < (y6_10.length : Int))))))], [(6, (.rows true 54 3 (y6_10.map e_api_Attr))), (8, (.box .ex [(S y8_0_11), (S y8_1_12)]))]⟩) ?_ ?_
          · refine OpsOk.cons rfl (.v (VOk.mv (d := (.v (.int .i64 x10_9))) rfl rfl) rfl) ?_
            refine OpsOk.cons rfl (.v (VOk.mv (d := (.sref 6)) rfl rfl) rfl) ?_
            refine OpsOk.cons rfl (.v (VOk.lenTL (e := e_api_Attr) (xs := y6_10) rfl Try.underlying50 rfl rfl) rfl) ?_
            refine OpsOk.cons rfl (.v (VOk.arith (op := .lss) (k := .i64) (a := x10_9) (b := (y6_10.length : Int)) rfl rfl rfl rfl) rfl) ?_
            exact .done (.mk ⟨.same _, .same _, .same _, .same _, .same _, .same _, .same _, trivial⟩ ⟨.same _, .same _, trivial⟩)
          refine Ok.test (b := (decide (x10_9 < (y6_10.length : Int)))) rfl (fun hb22 => ?_) (fun hb22 => ?_)
          · replace H := ifT H hb22
            refine Ok.le (σ' := ⟨[(0, (L 2 e_api_Bind a0)), (1, (L 2 e_api_Raw a1)), (6, (.sref 6)), (7, (.v (.int .i64 x7_1))), (8, (.bref 8 0)), (10, (.v (.int .i64 x10_9)))], [(6, (.rows true 54 3 (y6_10.map e_api_Attr))), (8, (.box .ex [(S y8_0_11), (S y8_1_12)]))]⟩) (.mk ⟨.same _, .same _, .same _, .same _, .same _, .same _, trivial⟩ ⟨.same _, .same _, trivial⟩) ?_
            refine Ok.skip ?_
            refine Ok.seq ?_
            refine Ok.block ?_
            refine Ok.seq ?_
            obtain ⟨c18, H⟩ := assertE H
            refine Ok.drawE (σ' := ⟨[(0, (L 2 e_api_Bind a0)), (1, (L 2 e_api_Raw a1)), (6, (.sref 6)), (7, (.v (.int .i64 x7_1))), (8, (.bref 8 0)), (10, (.v (.int .i64 x10_9))), (42, (.v (.bool (((rd y6_10 x10_9).Name).Space == (T_api_Name.mk y8_0_11 y8_1_12).Space && (((rd y6_10 x10_9).Name).Local == (T_api_Name.mk y8_0_11 y8_1_12).Local && true)))))], [(6, (.rows true 54 3 (y6_10.map e_api_Attr))), (8, (.box .ex [(S y8_0_11), (S y8_1_12)]))]⟩) [⟨true, [(6, (.sref 6))], (.sref 6)⟩, ⟨true, [(10, (.v (.int .i64 x10_9)))], (.v (.int .i64 x10_9))⟩, ⟨true, [(36, (.sref 6)), (37, (.v (.int .i64 x10_9)))], (.eref 6 (Int.toNat x10_9) 0)⟩, ⟨true, [(38, (.eref 6 (Int.toNat x10_9) 0))], (.eref 6 (Int.toNat x10_9) 0)⟩, ⟨true, [(39, (.eref 6 (Int.toNat x10_9) 0))], (.agg (e_api_Name ((rd y6_10 x10_9).Name)))⟩, ⟨true, [(8, (.bref 8 0))], (.agg (e_api_Name (T_api_Name.mk y8_0_11 y8_1_12)))⟩, ⟨true, [(40, (.agg (e_api_Name ((rd y6_10 x10_9).Name)))), (41, (.agg (e_api_Name (T_api_Name.mk y8_0_11 y8_1_12))))], (.v (.bool (((rd y6_10 x10_9).Name).Space == (T_api_Name.mk y8_0_11 y8_1_12).Space && (((rd y6_10 x10_9).Name).Local == (T_api_Name.mk y8_0_11 y8_1_12).Local && true))))⟩] [[], [], [0, 1], [2], [3], [], [4, 5]] mixed (by kernel_rfl) ?_ ?_
            · refine TxtE.cons rfl ⟨.same _, trivial⟩ rfl (VOk.g (VOk.mv (d := (.sref 6)) rfl rfl)) ?_
              refine TxtE.cons rfl ⟨.same _, trivial⟩ rfl (VOk.g (VOk.mv (d := (.v (.int .i64 x10_9))) rfl rfl)) ?_
              refine TxtE.cons rfl ⟨.same _, .same _, trivial⟩ rfl (VOk.g (VOk.indexTL (e := e_api_Attr) (xs := y6_10) (i := x10_9) rfl Try.underlying50 sz54 rfl rfl rfl c18)) ?_
              refine TxtE.cons rfl ⟨.same _, trivial⟩ rfl (VOk.g (VOk.to (VOk.fieldE rfl Try.underlying54 rfl sz40 rfl rfl) rfl)) ?_
              refine TxtE.cons rfl ⟨.same _, trivial⟩ rfl (VOk.g (VOk.to (d' := (.agg (e_api_Name ((rd y6_10 x10_9).Name)))) (.loadEAgg rfl Try.underlying40 rfl sz40 rfl rfl (row_rd c18) rfl) rfl)) ?_
              refine TxtE.cons rfl ⟨.same _, trivial⟩ rfl (VOk.g (VOk.to (d' := (.agg (e_api_Name (T_api_Name.mk y8_0_11 y8_1_12)))) (.loadBAgg rfl Try.underlying40 rfl sz40 rfl rfl rfl) rfl)) ?_
              refine TxtE.cons rfl ⟨.same _, .same _, trivial⟩ rfl (VOk.g (VOk.eqS' (op := .eql) (d := (.v (.bool (((rd y6_10 x10_9).Name).Space == (T_api_Name.mk y8_0_11 y8_1_12).Space && (((rd y6_10 x10_9).Name).Local == (T_api_Name.mk y8_0_11 y8_1_12).Local && true))))) rfl (.inl rfl) (eqt40 9998) ag40 eg40 rfl rfl rfl rfl)) ?_
              exact .done (.mk ⟨.same _, .same _, .same _, .same _, .same _, .same _, .same _, trivial⟩ ⟨.same _, .same _, trivial⟩)
            refine Ok.test (b := (((rd y6_10 x10_9).Name).Space == (T_api_Name.mk y8_0_11 y8_1_12).Space && (((rd y6_10 x10_9).Name).Local == (T_api_Name.mk y8_0_11 y8_1_12).Local && true))) rfl (fun hb19 => ?_) (fun hb19 => ?_)
            · replace H := ifT H hb19
              refine Ok.seq ?_
              refine Ok.region (σ' := ⟨[(4, (.v (.slice none 0 0))), (5, (.v (.int .i64 14)))], []⟩) ?_ ?_
              · refine OpsOk.cons rfl (.v (VOk.asg (d := (.v (.slice none 0 0))) rfl rfl) rfl) ?_
                refine OpsOk.cons rfl (.v (VOk.asg (d := (.v (.int .i64 14))) rfl rfl) rfl) ?_
                exact .done (.mk ⟨.same _, .same _, trivial⟩ trivial)
              refine Ok.le (σ' := ⟨[(4, (L 3 e_api_Attr ([] : List T_api_Attr))), (5, (.v (.int .i64 14)))], []⟩) (.mk ⟨.nil _, .same _, trivial⟩ trivial) ?_
              refine Ok.ret ?_
              obtain rfl := Option.some.inj H
              exact ⟨.inl rfl, ⟨_, (.cons (.tmp rfl) (.cons (.tmp rfl) .nil)), rfl⟩, trivial⟩
            · replace H := ifF H hb19
              refine Ok.le (σ' := ⟨[(0, (L 2 e_api_Bind a0)), (1, (L 2 e_api_Raw a1)), (6, (.sref 6)), (7, (.v (.int .i64 x7_1))), (8, (.bref 8 0)), (10, (.v (.int .i64 x10_9)))], [(6, (.rows true 54 3 (y6_10.map e_api_Attr))), (8, (.box .ex [(S y8_0_11), (S y8_1_12)]))]⟩) (.mk ⟨.same _, .same _, .same _, .same _, .same _, .same _, trivial⟩ ⟨.same _, .same _, trivial⟩) ?_
              refine Ok.skip ?_
              refine Ok.region (σ' := ⟨[(0, (L 2 e_api_Bind a0)), (1, (L 2 e_api_Raw a1)), (6, (.sref 6)), (7, (.v (.int .i64 x7_1))), (8, (.bref 8 0)), (10, (.v (.int .i64 (IntKind.i64.wrap (x10_9 + 1)))))], [(6, (.rows true 54 3 (y6_10.map e_api_Attr))), (8, (.box .ex [(S y8_0_11), (S y8_1_12)]))]⟩) ?_ ?_
              · refine OpsOk.cons rfl (.v (VOk.mv (d := (.v (.int .i64 x10_9))) rfl rfl) rfl) ?_
                refine OpsOk.cons rfl (.v (VOk.arith (op := .add) (k := .i64) (a := x10_9) (b := 1) rfl rfl rfl rfl) rfl) ?_
                refine OpsOk.cons rfl (.v (VOk.asg (d := (.v (.int .i64 (IntKind.i64.wrap (x10_9 + 1))))) rfl rfl) rfl) ?_
                exact .done (.mk ⟨.same _, .same _, .same _, .same _, .same _, .same _, trivial⟩ ⟨.same _, .same _, trivial⟩)
              exact ⟨m17, Nat.lt_succ_self m17, y8_0_11, y8_1_12, y6_10, (IntKind.i64.wrap (x10_9 + 1)), rfl, H⟩
          · replace H := ifF H hb22
            refine Ok.le (σ' := ⟨[(0, (L 2 e_api_Bind a0)), (1, (L 2 e_api_Raw a1)), (6, (.sref 6)), (7, (.v (.int .i64 x7_1))), (8, (.bref 8 0))], [(6, (.rows true 54 3 (y6_10.map e_api_Attr))), (8, (.box .ex [(S y8_0_11), (S y8_1_12)]))]⟩) (.mk ⟨.same _, .same _, .same _, .same _, .same _, trivial⟩ ⟨.same _, .same _, trivial⟩) ?_
            refine Ok.exit ?_
            obtain ⟨c20, H⟩ := assertE H
            obtain ⟨c21, H⟩ := assertE H
            refine Ok.le (σ' := ⟨[(0, (L 2 e_api_Bind a0)), (1, (L 2 e_api_Raw a1)), (6, (.sref 6)), (7, (.v (.int .i64 x7_1))), (8, (.bref 8 0))], [(6, (.rows true 54 3 (y6_10.map e_api_Attr))), (8, (.box .ex [(S y8_0_11), (S y8_1_12)]))]⟩) (.mk ⟨.same _, .same _, .same _, .same _, .same _, trivial⟩ ⟨.same _, .same _, trivial⟩) ?_
            refine Ok.drawE2 (σ' := ⟨[(0, (L 2 e_api_Bind a0)), (1, (L 2 e_api_Raw a1)), (6, (.sref 6)), (7, (.v (.int .i64 x7_1)))], [(6, (.rows true 54 3 ((y6_10 ++ ([(T_api_Attr.mk (T_api_Name.mk ((T_api_Name.mk y8_0_11 y8_1_12).Space) ((T_api_Name.mk y8_0_11 y8_1_12).Local)) ((rd a1 x7_1).Value))] : List T_api_Attr)).map e_api_Attr)))]⟩) [⟨true, [(6, (.sref 6))], [(6, (.rows true 54 3 (y6_10.map e_api_Attr)))], (.sref 6), [], false, []⟩, ⟨true, [(8, (.bref 8 0))], [(8, (.box .ex [(S y8_0_11), (S y8_1_12)]))], (.agg (e_api_Name (T_api_Name.mk y8_0_11 y8_1_12))), [], false, []⟩, ⟨true, [(1, (L 2 e_api_Raw a1))], [], (L 2 e_api_Raw a1), [], false, []⟩, ⟨true, [(7, (.v (.int .i64 x7_1)))], [], (.v (.int .i64 x7_1)), [], false, []⟩, ⟨true, [(45, (L 2 e_api_Raw a1)), (46, (.v (.int .i64 x7_1)))], [], (.fp (e_api_Raw (rd a1 x7_1)) 0), [], false, []⟩, ⟨true, [(47, (.fp (e_api_Raw (rd a1 x7_1)) 0))], [], (.fp (e_api_Raw (rd a1 x7_1)) 1), [], false, []⟩, ⟨true, [(48, (.fp (e_api_Raw (rd a1 x7_1)) 1))], [], (S ((rd a1 x7_1).Value)), [], false, []⟩, ⟨true, [(44, (.agg (e_api_Name (T_api_Name.mk y8_0_11 y8_1_12)))), (49, (S ((rd a1 x7_1).Value)))], [], (.agg (e_api_Attr (T_api_Attr.mk (T_api_Name.mk ((T_api_Name.mk y8_0_11 y8_1_12).Space) ((T_api_Name.mk y8_0_11 y8_1_12).Local)) ((rd a1 x7_1).Value)))), [], false, []⟩, ⟨true, [(50, (.agg (e_api_Attr (T_api_Attr.mk (T_api_Name.mk ((T_api_Name.mk y8_0_11 y8_1_12).Space) ((T_api_Name.mk y8_0_11 y8_1_12).Local)) ((rd a1 x7_1).Value)))))], [], (L 3 e_api_Attr ([(T_api_Attr.mk (T_api_Name.mk ((T_api_Name.mk y8_0_11 y8_1_12).Space) ((T_api_Name.mk y8_0_11 y8_1_12).Local)) ((rd a1 x7_1).Value))] : List T_api_Attr)), [], false, []⟩, ⟨true, [(43, (.sref 6)), (51, (L 3 e_api_Attr ([(T_api_Attr.mk (T_api_Name.mk ((T_api_Name.mk y8_0_11 y8_1_12).Space) ((T_api_Name.mk y8_0_11 y8_1_12).Local)) ((rd a1 x7_1).Value))] : List T_api_Attr)))], [(6, (.rows true 54 3 (y6_10.map e_api_Attr)))], (.sref 52), [(52, (.rows true 54 3 ((y6_10 ++ ([(T_api_Attr.mk (T_api_Name.mk ((T_api_Name.mk y8_0_11 y8_1_12).Space) ((T_api_Name.mk y8_0_11 y8_1_12).Local)) ((rd a1 x7_1).Value))] : List T_api_Attr)).map e_api_Attr))), (6, .none)], true, []⟩, ⟨true, [(52, (.sref 52))], [(52, (.rows true 54 3 ((y6_10 ++ ([(T_api_Attr.mk (T_api_Name.mk ((T_api_Name.mk y8_0_11 y8_1_12).Space) ((T_api_Name.mk y8_0_11 y8_1_12).Local)) ((rd a1 x7_1).Value))] : List T_api_Attr)).map e_api_Attr)))], (.sref 52), [], false, []⟩] [[], [], [], [], [2, 3], [4], [5], [1, 6], [7], [0, 8], [0, 9]] mixed (by kernel_rfl) ?_ ?_
            · refine TxtE2.cons ⟨.same _, trivial⟩ ⟨rfl, trivial⟩ (It2.val rfl rfl (fun T hT => (VOk.g (VOk.mv (d := (.sref 6)) rfl rfl)))) ?_
              refine TxtE2.cons ⟨.same _, trivial⟩ ⟨rfl, trivial⟩ (It2.val rfl rfl (fun T hT => (VOk.g (VOk.to (d' := (.agg (e_api_Name (T_api_Name.mk y8_0_11 y8_1_12)))) (.loadBAgg rfl Try.underlying40 rfl sz40 rfl hT.1 rfl) rfl)))) ?_
              refine TxtE2.cons ⟨.same _, trivial⟩ trivial (It2.val rfl rfl (fun T hT => (VOk.g (VOk.mv (d := (L 2 e_api_Raw a1)) rfl rfl)))) ?_
              refine TxtE2.cons ⟨.same _, trivial⟩ trivial (It2.val rfl rfl (fun T hT => (VOk.g (VOk.mv (d := (.v (.int .i64 x7_1))) rfl rfl)))) ?_
              refine TxtE2.cons ⟨.same _, .same _, trivial⟩ trivial (It2.val rfl rfl (fun T hT => (VOk.g (VOk.indexL (sz := 2) (e := e_api_Raw) (xs := a1) (i := x7_1) rfl Try.underlying46 sz49 rfl rfl c20)))) ?_
              refine TxtE2.cons ⟨.same _, trivial⟩ trivial (It2.val rfl rfl (fun T hT => (VOk.g (VOk.to (VOk.fieldFp rfl Try.underlying49 rfl sz9 rfl) rfl)))) ?_
              refine TxtE2.cons ⟨.same _, trivial⟩ trivial (It2.val rfl rfl (fun T hT => (VOk.g (VOk.loadFp (d := (S ((rd a1 x7_1).Value))) rfl Try.underlying9 rfl rfl rfl)))) ?_
              refine TxtE2.cons ⟨.same _, .same _, trivial⟩ trivial (It2.val rfl rfl (fun T hT => (VOk.g (VOk.to (d' := (.agg (e_api_Attr (T_api_Attr.mk (T_api_Name.mk ((T_api_Name.mk y8_0_11 y8_1_12).Space) ((T_api_Name.mk y8_0_11 y8_1_12).Local)) ((rd a1 x7_1).Value))))) (.build [none, none, none] [(0, 2), (2, 1)] rfl Try.underlying54 (fa54 Try.underlying54) zo54 rfl rfl) rfl)))) ?_
              refine TxtE2.cons ⟨.same _, trivial⟩ trivial (It2.val rfl rfl (fun T hT => (GOk.to (d' := (L 3 e_api_Attr ([(T_api_Attr.mk (T_api_Name.mk ((T_api_Name.mk y8_0_11 y8_1_12).Space) ((T_api_Name.mk y8_0_11 y8_1_12).Local)) ((rd a1 x7_1).Value))] : List T_api_Attr))) (GOk.lit rfl Try.underlying50 sz54 zs54 rfl rfl rfl rfl) rfl))) ?_
              refine TxtE2.cons ⟨.same _, .same _, trivial⟩ ⟨rfl, trivial⟩ (It2.appendL 52 (e := e_api_Attr) (xs := y6_10) (ys := ([(T_api_Attr.mk (T_api_Name.mk ((T_api_Name.mk y8_0_11 y8_1_12).Space) ((T_api_Name.mk y8_0_11 y8_1_12).Local)) ((rd a1 x7_1).Value))] : List T_api_Attr)) rfl rfl Try.underlying50 elt54 rfl rfl rfl rfl c21 rfl rfl) ?_
              refine TxtE2.cons ⟨.same _, trivial⟩ ⟨rfl, trivial⟩ (It2.val rfl rfl (fun T hT => (VOk.g (VOk.asg (d := (.sref 52)) rfl rfl)))) ?_
              exact .doneS (SLe.trans (Le.s (.mk ⟨.same _, .same _, .same _, .same _, trivial⟩ ⟨.same _, trivial⟩)) (SLe.ren 52 6 rfl rfl))
            refine Ok.region (σ' := ⟨[(0, (L 2 e_api_Bind a0)), (1, (L 2 e_api_Raw a1)), (6, (.sref 6)), (7, (.v (.int .i64 (IntKind.i64.wrap (x7_1 + 1)))))], [(6, (.rows true 54 3 ((y6_10 ++ ([(T_api_Attr.mk (T_api_Name.mk ((T_api_Name.mk y8_0_11 y8_1_12).Space) ((T_api_Name.mk y8_0_11 y8_1_12).Local)) ((rd a1 x7_1).Value))] : List T_api_Attr)).map e_api_Attr)))]⟩) ?_ ?_
            · refine OpsOk.cons rfl (.v (VOk.mv (d := (.v (.int .i64 x7_1))) rfl rfl) rfl) ?_
              refine OpsOk.cons rfl (.v (VOk.arith (op := .add) (k := .i64) (a := x7_1) (b := 1) rfl rfl rfl rfl) rfl) ?_
              refine OpsOk.cons rfl (.v (VOk.asg (d := (.v (.int .i64 (IntKind.i64.wrap (x7_1 + 1))))) rfl rfl) rfl) ?_
              exact .done (.mk ⟨.same _, .same _, .same _, .same _, trivial⟩ ⟨.same _, trivial⟩)
            exact ⟨m5, Nat.lt_succ_self m5, (y6_10 ++ ([(T_api_Attr.mk (T_api_Name.mk ((T_api_Name.mk y8_0_11 y8_1_12).Space) ((T_api_Name.mk y8_0_11 y8_1_12).Local)) ((rd a1 x7_1).Value))] : List T_api_Attr)), (IntKind.i64.wrap (x7_1 + 1)), rfl, H⟩
    · replace H := ifF H hb24
      refine Ok.le (σ' := ⟨[(6, (.sref 6))], [(6, (.rows true 54 3 (y6_2.map e_api_Attr)))]⟩) (.mk ⟨.same _, trivial⟩ ⟨.same _, trivial⟩) ?_
      refine Ok.exit ?_
      refine Ok.seq ?_
      refine Ok.region (σ' := ⟨[(4, (.sref 6)), (5, (.v (.int .i64 0)))], [(6, (.rows true 54 3 (y6_2.map e_api_Attr)))]⟩) ?_ ?_
      · refine OpsOk.cons rfl (.v (VOk.mv (d := (.sref 6)) rfl rfl) rfl) ?_
        refine OpsOk.cons rfl (.v (VOk.asg (d := (.sref 6)) rfl rfl) rfl) ?_
        refine OpsOk.cons rfl (.v (VOk.asg (d := (.v (.int .i64 0))) rfl rfl) rfl) ?_
        exact .done (.mk ⟨.same _, .same _, trivial⟩ ⟨.same _, trivial⟩)
      refine Ok.frzL 6 (e := e_api_Attr) (xs := y6_2) rfl ?_
      refine Ok.le (σ' := ⟨[(4, (L 3 e_api_Attr y6_2)), (5, (.v (.int .i64 0)))], []⟩) (.mk ⟨.same _, .same _, trivial⟩ trivial) ?_
      refine Ok.ret ?_
      obtain rfl := Option.some.inj H
      exact ⟨.inl rfl, ⟨_, (.cons (.tmp rfl) (.cons (.tmp rfl) .nil)), rfl⟩, trivial⟩

/-! watchbill/watchbillref02.Binds: function 15 -/
def watchbillref02_Binds.l0 (k : Nat) (a0 : List T_api_Bind) (a1 : List T_api_Bind) : Nat → Int → Option Bool
  | 0, _ => none
  | m3 + 1, x5_1 => (if (decide (x5_1 < (a0.length : Int))) = true then (if (0 : Int) ≤ x5_1 ∧ x5_1 < (a0.length : Int) then (if (0 : Int) ≤ x5_1 ∧ x5_1 < (a1.length : Int) then (if (!((rd a0 x5_1).Prefix == (rd a1 x5_1).Prefix && ((rd a0 x5_1).Space == (rd a1 x5_1).Space && true))) = true then some false else watchbillref02_Binds.l0 k a0 a1 m3 (IntKind.i64.wrap (x5_1 + 1))) else none) else none) else some true)
def watchbillref02_Binds (k : Nat) (a0 : List T_api_Bind) (a1 : List T_api_Bind) : Option Bool := (if ((a0.length : Int) != (a1.length : Int)) = true then some false else watchbillref02_Binds.l0 k a0 a1 k 0)
theorem watchbillref02_Binds.ok {k : Nat} {a0 : List T_api_Bind} {a1 : List T_api_Bind} {r : Bool} (H : watchbillref02_Binds k a0 a1 = some r) : Vx.Fn Try.prog 15 [(L 2 e_api_Bind a0), (L 2 e_api_Bind a1)] [] (.v (.bool r)) [] := by
  unfold watchbillref02_Binds at H
  refine Vx.Fn.of_okR Try.func15 rfl (Nat.le_of_ble_eq_true rfl) ?_
  refine Ok.seq ?_
  refine Ok.region (σ' := ⟨[(0, (L 2 e_api_Bind a0)), (1, (L 2 e_api_Bind a1))], []⟩) ?_ ?_
  · refine OpsOk.cons rfl (.v (VOk.asg (d := (.v (.bool false))) rfl rfl) rfl) ?_
    exact .done (.mk ⟨.same _, .same _, trivial⟩ trivial)
  refine Ok.seq ?_
  refine Ok.seq ?_
  refine Ok.region (σ' := ⟨[(0, (L 2 e_api_Bind a0)), (1, (L 2 e_api_Bind a1)), (10, (.v (.bool ((a0.length : Int) != (a1.length : Int)))))], []⟩) ?_ ?_
  · refine OpsOk.cons rfl (.v (VOk.mv (d := (L 2 e_api_Bind a0)) rfl rfl) rfl) ?_
    refine OpsOk.cons rfl (.v (VOk.lenL (e := e_api_Bind) (xs := a0) rfl Try.underlying26 rfl) rfl) ?_
    refine OpsOk.cons rfl (.v (VOk.mv (d := (L 2 e_api_Bind a1)) rfl rfl) rfl) ?_
    refine OpsOk.cons rfl (.v (VOk.lenL (e := e_api_Bind) (xs := a1) rfl Try.underlying26 rfl) rfl) ?_
    refine OpsOk.cons rfl (.v (VOk.arith (op := .neq) (k := .i64) (a := (a0.length : Int)) (b := (a1.length : Int)) rfl rfl rfl rfl) rfl) ?_
    exact .done (.mk ⟨.same _, .same _, .same _, trivial⟩ trivial)
  refine Ok.test (b := ((a0.length : Int) != (a1.length : Int))) rfl (fun hb8 => ?_) (fun hb8 => ?_)
  · replace H := ifT H hb8
    refine Ok.seq ?_
    refine Ok.region (σ' := ⟨[(4, (.v (.bool false)))], []⟩) ?_ ?_
    · refine OpsOk.cons rfl (.v (VOk.asg (d := (.v (.bool false))) rfl rfl) rfl) ?_
      exact .done (.mk ⟨.same _, trivial⟩ trivial)
    refine Ok.le (σ' := ⟨[(4, (.v (.bool false)))], []⟩) (.mk ⟨.same _, trivial⟩ trivial) ?_
    refine Ok.ret ?_
    obtain rfl := Option.some.inj H
    exact ⟨.inl rfl, ⟨_, (.cons (.tmp rfl) .nil), rfl⟩, trivial⟩
  · replace H := ifF H hb8
    refine Ok.le (σ' := ⟨[(0, (L 2 e_api_Bind a0)), (1, (L 2 e_api_Bind a1))], []⟩) (.mk ⟨.same _, .same _, trivial⟩ trivial) ?_
    refine Ok.skip ?_
    refine Ok.seq ?_
    refine Ok.seq ?_
    refine Ok.region (σ' := ⟨[(0, (L 2 e_api_Bind a0)), (1, (L 2 e_api_Bind a1)), (5, (.v (.int .i64 0)))], []⟩) ?_ ?_
    · refine OpsOk.cons rfl (.v (VOk.asg (d := (.v (.int .i64 0))) rfl rfl) rfl) ?_
      exact .done (.mk ⟨.same _, .same _, .same _, trivial⟩ trivial)
    refine Ok.block ?_
    refine Ok.le (σ' := ⟨[(0, (L 2 e_api_Bind a0)), (1, (L 2 e_api_Bind a1)), (5, (.v (.int .i64 0)))], []⟩) (.mk ⟨.same _, .same _, .same _, trivial⟩ trivial) ?_
    refine Ok.loop (fun m3 σ => ∃ (x5_1 : Int), σ = ⟨[(0, (L 2 e_api_Bind a0)), (1, (L 2 e_api_Bind a1)), (5, (.v (.int .i64 x5_1)))], []⟩ ∧ watchbillref02_Binds.l0 k a0 a1 m3 x5_1 = some r) k ⟨0, rfl, H⟩ ?_
    rintro m3 σ ⟨x5_1, rfl, H⟩
    cases m3 with
    | zero => exact absurd H (by simp [watchbillref02_Binds.l0])
    | succ m3 =>
      unfold watchbillref02_Binds.l0 at H
      refine Ok.seq ?_
      refine Ok.seq ?_
      refine Ok.region (σ' := ⟨[(0, (L 2 e_api_Bind a0)), (1, (L 2 e_api_Bind a1)), (5, (.v (.int .i64 x5_1))), (14, (.v (.bool (decide (x5_1 < (a0.length : Int))))))], []⟩) ?_ ?_
      · refine OpsOk.cons rfl (.v (VOk.mv (d := (.v (.int .i64 x5_1))) rfl rfl) rfl) ?_
        refine OpsOk.cons rfl (.v (VOk.mv (d := (L 2 e_api_Bind a0)) rfl rfl) rfl) ?_
        refine OpsOk.cons rfl (.v (VOk.lenL (e := e_api_Bind) (xs := a0) rfl Try.underlying26 rfl) rfl) ?_
        refine OpsOk.cons rfl (.v (VOk.arith (op := .lss) (k := .i64) (a := x5_1) (b := (a0.length : Int)) rfl rfl rfl rfl) rfl) ?_
        exact .done (.mk ⟨.same _, .same _, .same _, .same _, trivial⟩ trivial)
      refine Ok.test (b := (decide (x5_1 < (a0.length : Int)))) rfl (fun hb7 => ?_) (fun hb7 => ?_)
      · replace H := ifT H hb7
        refine Ok.le (σ' := ⟨[(0, (L 2 e_api_Bind a0)), (1, (L 2 e_api_Bind a1)), (5, (.v (.int .i64 x5_1)))], []⟩) (.mk ⟨.same _, .same _, .same _, trivial⟩ trivial) ?_
        refine Ok.skip ?_
        refine Ok.seq ?_
        refine Ok.block ?_
        refine Ok.seq ?_
        obtain ⟨c4, H⟩ := assertE H
        obtain ⟨c5, H⟩ := assertE H
        refine Ok.drawE (σ' := ⟨[(0, (L 2 e_api_Bind a0)), (1, (L 2 e_api_Bind a1)), (5, (.v (.int .i64 x5_1))), (25, (.v (.bool (!((rd a0 x5_1).Prefix == (rd a1 x5_1).Prefix && ((rd a0 x5_1).Space == (rd a1 x5_1).Space && true))))))], []⟩) [⟨true, [(0, (L 2 e_api_Bind a0))], (L 2 e_api_Bind a0)⟩, ⟨true, [(5, (.v (.int .i64 x5_1)))], (.v (.int .i64 x5_1))⟩, ⟨true, [(17, (L 2 e_api_Bind a0)), (18, (.v (.int .i64 x5_1)))], (.fp (e_api_Bind (rd a0 x5_1)) 0)⟩, ⟨true, [(19, (.fp (e_api_Bind (rd a0 x5_1)) 0))], (.agg (e_api_Bind (rd a0 x5_1)))⟩, ⟨true, [(1, (L 2 e_api_Bind a1))], (L 2 e_api_Bind a1)⟩, ⟨true, [(5, (.v (.int .i64 x5_1)))], (.v (.int .i64 x5_1))⟩, ⟨true, [(21, (L 2 e_api_Bind a1)), (22, (.v (.int .i64 x5_1)))], (.fp (e_api_Bind (rd a1 x5_1)) 0)⟩, ⟨true, [(23, (.fp (e_api_Bind (rd a1 x5_1)) 0))], (.agg (e_api_Bind (rd a1 x5_1)))⟩, ⟨true, [(20, (.agg (e_api_Bind (rd a0 x5_1)))), (24, (.agg (e_api_Bind (rd a1 x5_1))))], (.v (.bool (!((rd a0 x5_1).Prefix == (rd a1 x5_1).Prefix && ((rd a0 x5_1).Space == (rd a1 x5_1).Space && true)))))⟩] [[], [], [0, 1], [2], [], [], [4, 5], [6], [3, 7]] mixed (by kernel_rfl) ?_ ?_
        · refine TxtE.cons rfl ⟨.same _, trivial⟩ rfl (VOk.g (VOk.mv (d := (L 2 e_api_Bind a0)) rfl rfl)) ?_
          refine TxtE.cons rfl ⟨.same _, trivial⟩ rfl (VOk.g (VOk.mv (d := (.v (.int .i64 x5_1))) rfl rfl)) ?_
          refine TxtE.cons rfl ⟨.same _, .same _, trivial⟩ rfl (VOk.g (VOk.indexL (sz := 2) (e := e_api_Bind) (xs := a0) (i := x5_1) rfl Try.underlying26 sz35 rfl rfl c4)) ?_
          refine TxtE.cons rfl ⟨.same _, trivial⟩ rfl (VOk.g (VOk.to (d' := (.agg (e_api_Bind (rd a0 x5_1)))) (.loadFpAgg rfl Try.underlying35 rfl sz35 rfl rfl) rfl)) ?_
          refine TxtE.cons rfl ⟨.same _, trivial⟩ rfl (VOk.g (VOk.mv (d := (L 2 e_api_Bind a1)) rfl rfl)) ?_
          refine TxtE.cons rfl ⟨.same _, trivial⟩ rfl (VOk.g (VOk.mv (d := (.v (.int .i64 x5_1))) rfl rfl)) ?_
          refine TxtE.cons rfl ⟨.same _, .same _, trivial⟩ rfl (VOk.g (VOk.indexL (sz := 2) (e := e_api_Bind) (xs := a1) (i := x5_1) rfl Try.underlying26 sz35 rfl rfl c5)) ?_
          refine TxtE.cons rfl ⟨.same _, trivial⟩ rfl (VOk.g (VOk.to (d' := (.agg (e_api_Bind (rd a1 x5_1)))) (.loadFpAgg rfl Try.underlying35 rfl sz35 rfl rfl) rfl)) ?_
          refine TxtE.cons rfl ⟨.same _, .same _, trivial⟩ rfl (VOk.g (VOk.eqS' (op := .neq) (d := (.v (.bool (!((rd a0 x5_1).Prefix == (rd a1 x5_1).Prefix && ((rd a0 x5_1).Space == (rd a1 x5_1).Space && true)))))) rfl (.inr rfl) (eqt35 9998) ag35 eg35 rfl rfl rfl rfl)) ?_
          exact .done (.mk ⟨.same _, .same _, .same _, .same _, trivial⟩ trivial)
        refine Ok.test (b := (!((rd a0 x5_1).Prefix == (rd a1 x5_1).Prefix && ((rd a0 x5_1).Space == (rd a1 x5_1).Space && true)))) rfl (fun hb6 => ?_) (fun hb6 => ?_)
        · replace H := ifT H hb6
          refine Ok.seq ?_
          refine Ok.region (σ' := ⟨[(4, (.v (.bool false)))], []⟩) ?_ ?_
          · refine OpsOk.cons rfl (.v (VOk.asg (d := (.v (.bool false))) rfl rfl) rfl) ?_
            exact .done (.mk ⟨.same _, trivial⟩ trivial)
          refine Ok.le (σ' := ⟨[(4, (.v (.bool false)))], []⟩) (.mk ⟨.same _, trivial⟩ trivial) ?_
          refine Ok.ret ?_
          obtain rfl := Option.some.inj H
          exact ⟨.inl rfl, ⟨_, (.cons (.tmp rfl) .nil), rfl⟩, trivial⟩
        · replace H := ifF H hb6
          refine Ok.le (σ' := ⟨[(0, (L 2 e_api_Bind a0)), (1, (L 2 e_api_Bind a1)), (5, (.v (.int .i64 x5_1)))], []⟩) (.mk ⟨.same _, .same _, .same _, trivial⟩ trivial) ?_
          refine Ok.skip ?_
          refine Ok.region (σ' := ⟨[(0, (L 2 e_api_Bind a0)), (1, (L 2 e_api_Bind a1)), (5, (.v (.int .i64 (IntKind.i64.wrap (x5_1 + 1)))))], []⟩) ?_ ?_
          · refine OpsOk.cons rfl (.v (VOk.mv (d := (.v (.int .i64 x5_1))) rfl rfl) rfl) ?_
            refine OpsOk.cons rfl (.v (VOk.arith (op := .add) (k := .i64) (a := x5_1) (b := 1) rfl rfl rfl rfl) rfl) ?_
            refine OpsOk.cons rfl (.v (VOk.asg (d := (.v (.int .i64 (IntKind.i64.wrap (x5_1 + 1))))) rfl rfl) rfl) ?_
            exact .done (.mk ⟨.same _, .same _, .same _, trivial⟩ trivial)
          exact ⟨m3, Nat.lt_succ_self m3, (IntKind.i64.wrap (x5_1 + 1)), rfl, H⟩
      · replace H := ifF H hb7
        refine Ok.le (σ' := ⟨[], []⟩) (.mk trivial trivial) ?_
        refine Ok.exit ?_
        refine Ok.seq ?_
        refine Ok.region (σ' := ⟨[(4, (.v (.bool true)))], []⟩) ?_ ?_
        · refine OpsOk.cons rfl (.v (VOk.asg (d := (.v (.bool true))) rfl rfl) rfl) ?_
          exact .done (.mk ⟨.same _, trivial⟩ trivial)
        refine Ok.le (σ' := ⟨[(4, (.v (.bool true)))], []⟩) (.mk ⟨.same _, trivial⟩ trivial) ?_
        refine Ok.ret ?_
        obtain rfl := Option.some.inj H
        exact ⟨.inl rfl, ⟨_, (.cons (.tmp rfl) .nil), rfl⟩, trivial⟩

/-! watchbill/watchbillref02.Raws: function 25 -/
def watchbillref02_Raws.l0 (k : Nat) (a0 : List T_api_Raw) (a1 : List T_api_Raw) : Nat → Int → Option Bool
  | 0, _ => none
  | m3 + 1, x5_1 => (if (decide (x5_1 < (a0.length : Int))) = true then (if (0 : Int) ≤ x5_1 ∧ x5_1 < (a0.length : Int) then (if (0 : Int) ≤ x5_1 ∧ x5_1 < (a1.length : Int) then (if (!((rd a0 x5_1).Name == (rd a1 x5_1).Name && ((rd a0 x5_1).Value == (rd a1 x5_1).Value && true))) = true then some false else watchbillref02_Raws.l0 k a0 a1 m3 (IntKind.i64.wrap (x5_1 + 1))) else none) else none) else some true)
def watchbillref02_Raws (k : Nat) (a0 : List T_api_Raw) (a1 : List T_api_Raw) : Option Bool := (if ((a0.length : Int) != (a1.length : Int)) = true then some false else watchbillref02_Raws.l0 k a0 a1 k 0)
theorem watchbillref02_Raws.ok {k : Nat} {a0 : List T_api_Raw} {a1 : List T_api_Raw} {r : Bool} (H : watchbillref02_Raws k a0 a1 = some r) : Vx.Fn Try.prog 25 [(L 2 e_api_Raw a0), (L 2 e_api_Raw a1)] [] (.v (.bool r)) [] := by
  unfold watchbillref02_Raws at H
  refine Vx.Fn.of_okR Try.func25 rfl (Nat.le_of_ble_eq_true rfl) ?_
  refine Ok.seq ?_
  refine Ok.region (σ' := ⟨[(0, (L 2 e_api_Raw a0)), (1, (L 2 e_api_Raw a1))], []⟩) ?_ ?_
  · refine OpsOk.cons rfl (.v (VOk.asg (d := (.v (.bool false))) rfl rfl) rfl) ?_
    exact .done (.mk ⟨.same _, .same _, trivial⟩ trivial)
  refine Ok.seq ?_
  refine Ok.seq ?_
  refine Ok.region (σ' := ⟨[(0, (L 2 e_api_Raw a0)), (1, (L 2 e_api_Raw a1)), (10, (.v (.bool ((a0.length : Int) != (a1.length : Int)))))], []⟩) ?_ ?_
  · refine OpsOk.cons rfl (.v (VOk.mv (d := (L 2 e_api_Raw a0)) rfl rfl) rfl) ?_
    refine OpsOk.cons rfl (.v (VOk.lenL (e := e_api_Raw) (xs := a0) rfl Try.underlying46 rfl) rfl) ?_
    refine OpsOk.cons rfl (.v (VOk.mv (d := (L 2 e_api_Raw a1)) rfl rfl) rfl) ?_
    refine OpsOk.cons rfl (.v (VOk.lenL (e := e_api_Raw) (xs := a1) rfl Try.underlying46 rfl) rfl) ?_
    refine OpsOk.cons rfl (.v (VOk.arith (op := .neq) (k := .i64) (a := (a0.length : Int)) (b := (a1.length : Int)) rfl rfl rfl rfl) rfl) ?_
    exact .done (.mk ⟨.same _, .same _, .same _, trivial⟩ trivial)
  refine Ok.test (b := ((a0.length : Int) != (a1.length : Int))) rfl (fun hb8 => ?_) (fun hb8 => ?_)
  · replace H := ifT H hb8
    refine Ok.seq ?_
    refine Ok.region (σ' := ⟨[(4, (.v (.bool false)))], []⟩) ?_ ?_
    · refine OpsOk.cons rfl (.v (VOk.asg (d := (.v (.bool false))) rfl rfl) rfl) ?_
      exact .done (.mk ⟨.same _, trivial⟩ trivial)
    refine Ok.le (σ' := ⟨[(4, (.v (.bool false)))], []⟩) (.mk ⟨.same _, trivial⟩ trivial) ?_
    refine Ok.ret ?_
    obtain rfl := Option.some.inj H
    exact ⟨.inl rfl, ⟨_, (.cons (.tmp rfl) .nil), rfl⟩, trivial⟩
  · replace H := ifF H hb8
    refine Ok.le (σ' := ⟨[(0, (L 2 e_api_Raw a0)), (1, (L 2 e_api_Raw a1))], []⟩) (.mk ⟨.same _, .same _, trivial⟩ trivial) ?_
    refine Ok.skip ?_
    refine Ok.seq ?_
    refine Ok.seq ?_
    refine Ok.region (σ' := ⟨[(0, (L 2 e_api_Raw a0)), (1, (L 2 e_api_Raw a1)), (5, (.v (.int .i64 0)))], []⟩) ?_ ?_
    · refine OpsOk.cons rfl (.v (VOk.asg (d := (.v (.int .i64 0))) rfl rfl) rfl) ?_
      exact .done (.mk ⟨.same _, .same _, .same _, trivial⟩ trivial)
    refine Ok.block ?_
    refine Ok.le (σ' := ⟨[(0, (L 2 e_api_Raw a0)), (1, (L 2 e_api_Raw a1)), (5, (.v (.int .i64 0)))], []⟩) (.mk ⟨.same _, .same _, .same _, trivial⟩ trivial) ?_
    refine Ok.loop (fun m3 σ => ∃ (x5_1 : Int), σ = ⟨[(0, (L 2 e_api_Raw a0)), (1, (L 2 e_api_Raw a1)), (5, (.v (.int .i64 x5_1)))], []⟩ ∧ watchbillref02_Raws.l0 k a0 a1 m3 x5_1 = some r) k ⟨0, rfl, H⟩ ?_
    rintro m3 σ ⟨x5_1, rfl, H⟩
    cases m3 with
    | zero => exact absurd H (by simp [watchbillref02_Raws.l0])
    | succ m3 =>
      unfold watchbillref02_Raws.l0 at H
      refine Ok.seq ?_
      refine Ok.seq ?_
      refine Ok.region (σ' := ⟨[(0, (L 2 e_api_Raw a0)), (1, (L 2 e_api_Raw a1)), (5, (.v (.int .i64 x5_1))), (14, (.v (.bool (decide (x5_1 < (a0.length : Int))))))], []⟩) ?_ ?_
      · refine OpsOk.cons rfl (.v (VOk.mv (d := (.v (.int .i64 x5_1))) rfl rfl) rfl) ?_
        refine OpsOk.cons rfl (.v (VOk.mv (d := (L 2 e_api_Raw a0)) rfl rfl) rfl) ?_
        refine OpsOk.cons rfl (.v (VOk.lenL (e := e_api_Raw) (xs := a0) rfl Try.underlying46 rfl) rfl) ?_
        refine OpsOk.cons rfl (.v (VOk.arith (op := .lss) (k := .i64) (a := x5_1) (b := (a0.length : Int)) rfl rfl rfl rfl) rfl) ?_
        exact .done (.mk ⟨.same _, .same _, .same _, .same _, trivial⟩ trivial)
      refine Ok.test (b := (decide (x5_1 < (a0.length : Int)))) rfl (fun hb7 => ?_) (fun hb7 => ?_)
      · replace H := ifT H hb7
        refine Ok.le (σ' := ⟨[(0, (L 2 e_api_Raw a0)), (1, (L 2 e_api_Raw a1)), (5, (.v (.int .i64 x5_1)))], []⟩) (.mk ⟨.same _, .same _, .same _, trivial⟩ trivial) ?_
        refine Ok.skip ?_
        refine Ok.seq ?_
        refine Ok.block ?_
        refine Ok.seq ?_
        obtain ⟨c4, H⟩ := assertE H
        obtain ⟨c5, H⟩ := assertE H
        refine Ok.drawE (σ' := ⟨[(0, (L 2 e_api_Raw a0)), (1, (L 2 e_api_Raw a1)), (5, (.v (.int .i64 x5_1))), (25, (.v (.bool (!((rd a0 x5_1).Name == (rd a1 x5_1).Name && ((rd a0 x5_1).Value == (rd a1 x5_1).Value && true))))))], []⟩) [⟨true, [(0, (L 2 e_api_Raw a0))], (L 2 e_api_Raw a0)⟩, ⟨true, [(5, (.v (.int .i64 x5_1)))], (.v (.int .i64 x5_1))⟩, ⟨true, [(17, (L 2 e_api_Raw a0)), (18, (.v (.int .i64 x5_1)))], (.fp (e_api_Raw (rd a0 x5_1)) 0)⟩, ⟨true, [(19, (.fp (e_api_Raw (rd a0 x5_1)) 0))], (.agg (e_api_Raw (rd a0 x5_1)))⟩, ⟨true, [(1, (L 2 e_api_Raw a1))], (L 2 e_api_Raw a1)⟩, ⟨true, [(5, (.v (.int .i64 x5_1)))], (.v (.int .i64 x5_1))⟩, ⟨true, [(21, (L 2 e_api_Raw a1)), (22, (.v (.int .i64 x5_1)))], (.fp (e_api_Raw (rd a1 x5_1)) 0)⟩, ⟨true, [(23, (.fp (e_api_Raw (rd a1 x5_1)) 0))], (.agg (e_api_Raw (rd a1 x5_1)))⟩, ⟨true, [(20, (.agg (e_api_Raw (rd a0 x5_1)))), (24, (.agg (e_api_Raw (rd a1 x5_1))))], (.v (.bool (!((rd a0 x5_1).Name == (rd a1 x5_1).Name && ((rd a0 x5_1).Value == (rd a1 x5_1).Value && true)))))⟩] [[], [], [0, 1], [2], [], [], [4, 5], [6], [3, 7]] mixed (by kernel_rfl) ?_ ?_
        · refine TxtE.cons rfl ⟨.same _, trivial⟩ rfl (VOk.g (VOk.mv (d := (L 2 e_api_Raw a0)) rfl rfl)) ?_
          refine TxtE.cons rfl ⟨.same _, trivial⟩ rfl (VOk.g (VOk.mv (d := (.v (.int .i64 x5_1))) rfl rfl)) ?_
          refine TxtE.cons rfl ⟨.same _, .same _, trivial⟩ rfl (VOk.g (VOk.indexL (sz := 2) (e := e_api_Raw) (xs := a0) (i := x5_1) rfl Try.underlying46 sz49 rfl rfl c4)) ?_
          refine TxtE.cons rfl ⟨.same _, trivial⟩ rfl (VOk.g (VOk.to (d' := (.agg (e_api_Raw (rd a0 x5_1)))) (.loadFpAgg rfl Try.underlying49 rfl sz49 rfl rfl) rfl)) ?_
          refine TxtE.cons rfl ⟨.same _, trivial⟩ rfl (VOk.g (VOk.mv (d := (L 2 e_api_Raw a1)) rfl rfl)) ?_
          refine TxtE.cons rfl ⟨.same _, trivial⟩ rfl (VOk.g (VOk.mv (d := (.v (.int .i64 x5_1))) rfl rfl)) ?_
          refine TxtE.cons rfl ⟨.same _, .same _, trivial⟩ rfl (VOk.g (VOk.indexL (sz := 2) (e := e_api_Raw) (xs := a1) (i := x5_1) rfl Try.underlying46 sz49 rfl rfl c5)) ?_
          refine TxtE.cons rfl ⟨.same _, trivial⟩ rfl (VOk.g (VOk.to (d' := (.agg (e_api_Raw (rd a1 x5_1)))) (.loadFpAgg rfl Try.underlying49 rfl sz49 rfl rfl) rfl)) ?_
          refine TxtE.cons rfl ⟨.same _, .same _, trivial⟩ rfl (VOk.g (VOk.eqS' (op := .neq) (d := (.v (.bool (!((rd a0 x5_1).Name == (rd a1 x5_1).Name && ((rd a0 x5_1).Value == (rd a1 x5_1).Value && true)))))) rfl (.inr rfl) (eqt49 9998) ag49 eg49 rfl rfl rfl rfl)) ?_
          exact .done (.mk ⟨.same _, .same _, .same _, .same _, trivial⟩ trivial)
        refine Ok.test (b := (!((rd a0 x5_1).Name == (rd a1 x5_1).Name && ((rd a0 x5_1).Value == (rd a1 x5_1).Value && true)))) rfl (fun hb6 => ?_) (fun hb6 => ?_)
        · replace H := ifT H hb6
          refine Ok.seq ?_
          refine Ok.region (σ' := ⟨[(4, (.v (.bool false)))], []⟩) ?_ ?_
          · refine OpsOk.cons rfl (.v (VOk.asg (d := (.v (.bool false))) rfl rfl) rfl) ?_
            exact .done (.mk ⟨.same _, trivial⟩ trivial)
          refine Ok.le (σ' := ⟨[(4, (.v (.bool false)))], []⟩) (.mk ⟨.same _, trivial⟩ trivial) ?_
          refine Ok.ret ?_
          obtain rfl := Option.some.inj H
          exact ⟨.inl rfl, ⟨_, (.cons (.tmp rfl) .nil), rfl⟩, trivial⟩
        · replace H := ifF H hb6
          refine Ok.le (σ' := ⟨[(0, (L 2 e_api_Raw a0)), (1, (L 2 e_api_Raw a1)), (5, (.v (.int .i64 x5_1)))], []⟩) (.mk ⟨.same _, .same _, .same _, trivial⟩ trivial) ?_
          refine Ok.skip ?_
          refine Ok.region (σ' := ⟨[(0, (L 2 e_api_Raw a0)), (1, (L 2 e_api_Raw a1)), (5, (.v (.int .i64 (IntKind.i64.wrap (x5_1 + 1)))))], []⟩) ?_ ?_
          · refine OpsOk.cons rfl (.v (VOk.mv (d := (.v (.int .i64 x5_1))) rfl rfl) rfl) ?_
            refine OpsOk.cons rfl (.v (VOk.arith (op := .add) (k := .i64) (a := x5_1) (b := 1) rfl rfl rfl rfl) rfl) ?_
            refine OpsOk.cons rfl (.v (VOk.asg (d := (.v (.int .i64 (IntKind.i64.wrap (x5_1 + 1))))) rfl rfl) rfl) ?_
            exact .done (.mk ⟨.same _, .same _, .same _, trivial⟩ trivial)
          exact ⟨m3, Nat.lt_succ_self m3, (IntKind.i64.wrap (x5_1 + 1)), rfl, H⟩
      · replace H := ifF H hb7
        refine Ok.le (σ' := ⟨[], []⟩) (.mk trivial trivial) ?_
        refine Ok.exit ?_
        refine Ok.seq ?_
        refine Ok.region (σ' := ⟨[(4, (.v (.bool true)))], []⟩) ?_ ?_
        · refine OpsOk.cons rfl (.v (VOk.asg (d := (.v (.bool true))) rfl rfl) rfl) ?_
          exact .done (.mk ⟨.same _, trivial⟩ trivial)
        refine Ok.le (σ' := ⟨[(4, (.v (.bool true)))], []⟩) (.mk ⟨.same _, trivial⟩ trivial) ?_
        refine Ok.ret ?_
        obtain rfl := Option.some.inj H
        exact ⟨.inl rfl, ⟨_, (.cons (.tmp rfl) .nil), rfl⟩, trivial⟩

/-! watchbill/watchbillref02.Same: function 26 -/
def watchbillref02_Same.l0 (k : Nat) (a0 : List T_api_Attr) (a1 : List T_api_Attr) : Nat → Int → Option Bool
  | 0, _ => none
  | m3 + 1, x5_1 => (if (decide (x5_1 < (a0.length : Int))) = true then (if (0 : Int) ≤ x5_1 ∧ x5_1 < (a0.length : Int) then (if (0 : Int) ≤ x5_1 ∧ x5_1 < (a1.length : Int) then (if (!((rd a0 x5_1).Name.Space == (rd a1 x5_1).Name.Space && ((rd a0 x5_1).Name.Local == (rd a1 x5_1).Name.Local && ((rd a0 x5_1).Value == (rd a1 x5_1).Value && true)))) = true then some false else watchbillref02_Same.l0 k a0 a1 m3 (IntKind.i64.wrap (x5_1 + 1))) else none) else none) else some true)
def watchbillref02_Same (k : Nat) (a0 : List T_api_Attr) (a1 : List T_api_Attr) : Option Bool := (if ((a0.length : Int) != (a1.length : Int)) = true then some false else watchbillref02_Same.l0 k a0 a1 k 0)
theorem watchbillref02_Same.ok {k : Nat} {a0 : List T_api_Attr} {a1 : List T_api_Attr} {r : Bool} (H : watchbillref02_Same k a0 a1 = some r) : Vx.Fn Try.prog 26 [(L 3 e_api_Attr a0), (L 3 e_api_Attr a1)] [] (.v (.bool r)) [] := by
  unfold watchbillref02_Same at H
  refine Vx.Fn.of_okR Try.func26 rfl (Nat.le_of_ble_eq_true rfl) ?_
  refine Ok.seq ?_
  refine Ok.region (σ' := ⟨[(0, (L 3 e_api_Attr a0)), (1, (L 3 e_api_Attr a1))], []⟩) ?_ ?_
  · refine OpsOk.cons rfl (.v (VOk.asg (d := (.v (.bool false))) rfl rfl) rfl) ?_
    exact .done (.mk ⟨.same _, .same _, trivial⟩ trivial)
  refine Ok.seq ?_
  refine Ok.seq ?_
  refine Ok.region (σ' := ⟨[(0, (L 3 e_api_Attr a0)), (1, (L 3 e_api_Attr a1)), (10, (.v (.bool ((a0.length : Int) != (a1.length : Int)))))], []⟩) ?_ ?_
  · refine OpsOk.cons rfl (.v (VOk.mv (d := (L 3 e_api_Attr a0)) rfl rfl) rfl) ?_
    refine OpsOk.cons rfl (.v (VOk.lenL (e := e_api_Attr) (xs := a0) rfl Try.underlying50 rfl) rfl) ?_
    refine OpsOk.cons rfl (.v (VOk.mv (d := (L 3 e_api_Attr a1)) rfl rfl) rfl) ?_
    refine OpsOk.cons rfl (.v (VOk.lenL (e := e_api_Attr) (xs := a1) rfl Try.underlying50 rfl) rfl) ?_
    refine OpsOk.cons rfl (.v (VOk.arith (op := .neq) (k := .i64) (a := (a0.length : Int)) (b := (a1.length : Int)) rfl rfl rfl rfl) rfl) ?_
    exact .done (.mk ⟨.same _, .same _, .same _, trivial⟩ trivial)
  refine Ok.test (b := ((a0.length : Int) != (a1.length : Int))) rfl (fun hb8 => ?_) (fun hb8 => ?_)
  · replace H := ifT H hb8
    refine Ok.seq ?_
    refine Ok.region (σ' := ⟨[(4, (.v (.bool false)))], []⟩) ?_ ?_
    · refine OpsOk.cons rfl (.v (VOk.asg (d := (.v (.bool false))) rfl rfl) rfl) ?_
      exact .done (.mk ⟨.same _, trivial⟩ trivial)
    refine Ok.le (σ' := ⟨[(4, (.v (.bool false)))], []⟩) (.mk ⟨.same _, trivial⟩ trivial) ?_
    refine Ok.ret ?_
    obtain rfl := Option.some.inj H
    exact ⟨.inl rfl, ⟨_, (.cons (.tmp rfl) .nil), rfl⟩, trivial⟩
  · replace H := ifF H hb8
    refine Ok.le (σ' := ⟨[(0, (L 3 e_api_Attr a0)), (1, (L 3 e_api_Attr a1))], []⟩) (.mk ⟨.same _, .same _, trivial⟩ trivial) ?_
    refine Ok.skip ?_
    refine Ok.seq ?_
    refine Ok.seq ?_
    refine Ok.region (σ' := ⟨[(0, (L 3 e_api_Attr a0)), (1, (L 3 e_api_Attr a1)), (5, (.v (.int .i64 0)))], []⟩) ?_ ?_
    · refine OpsOk.cons rfl (.v (VOk.asg (d := (.v (.int .i64 0))) rfl rfl) rfl) ?_
      exact .done (.mk ⟨.same _, .same _, .same _, trivial⟩ trivial)
    refine Ok.block ?_
    refine Ok.le (σ' := ⟨[(0, (L 3 e_api_Attr a0)), (1, (L 3 e_api_Attr a1)), (5, (.v (.int .i64 0)))], []⟩) (.mk ⟨.same _, .same _, .same _, trivial⟩ trivial) ?_
    refine Ok.loop (fun m3 σ => ∃ (x5_1 : Int), σ = ⟨[(0, (L 3 e_api_Attr a0)), (1, (L 3 e_api_Attr a1)), (5, (.v (.int .i64 x5_1)))], []⟩ ∧ watchbillref02_Same.l0 k a0 a1 m3 x5_1 = some r) k ⟨0, rfl, H⟩ ?_
    rintro m3 σ ⟨x5_1, rfl, H⟩
    cases m3 with
    | zero => exact absurd H (by simp [watchbillref02_Same.l0])
    | succ m3 =>
      unfold watchbillref02_Same.l0 at H
      refine Ok.seq ?_
      refine Ok.seq ?_
      refine Ok.region (σ' := ⟨[(0, (L 3 e_api_Attr a0)), (1, (L 3 e_api_Attr a1)), (5, (.v (.int .i64 x5_1))), (14, (.v (.bool (decide (x5_1 < (a0.length : Int))))))], []⟩) ?_ ?_
      · refine OpsOk.cons rfl (.v (VOk.mv (d := (.v (.int .i64 x5_1))) rfl rfl) rfl) ?_
        refine OpsOk.cons rfl (.v (VOk.mv (d := (L 3 e_api_Attr a0)) rfl rfl) rfl) ?_
        refine OpsOk.cons rfl (.v (VOk.lenL (e := e_api_Attr) (xs := a0) rfl Try.underlying50 rfl) rfl) ?_
        refine OpsOk.cons rfl (.v (VOk.arith (op := .lss) (k := .i64) (a := x5_1) (b := (a0.length : Int)) rfl rfl rfl rfl) rfl) ?_
        exact .done (.mk ⟨.same _, .same _, .same _, .same _, trivial⟩ trivial)
      refine Ok.test (b := (decide (x5_1 < (a0.length : Int)))) rfl (fun hb7 => ?_) (fun hb7 => ?_)
      · replace H := ifT H hb7
        refine Ok.le (σ' := ⟨[(0, (L 3 e_api_Attr a0)), (1, (L 3 e_api_Attr a1)), (5, (.v (.int .i64 x5_1)))], []⟩) (.mk ⟨.same _, .same _, .same _, trivial⟩ trivial) ?_
        refine Ok.skip ?_
        refine Ok.seq ?_
        refine Ok.block ?_
        refine Ok.seq ?_
        obtain ⟨c4, H⟩ := assertE H
        obtain ⟨c5, H⟩ := assertE H
        refine Ok.drawE (σ' := ⟨[(0, (L 3 e_api_Attr a0)), (1, (L 3 e_api_Attr a1)), (5, (.v (.int .i64 x5_1))), (25, (.v (.bool (!((rd a0 x5_1).Name.Space == (rd a1 x5_1).Name.Space && ((rd a0 x5_1).Name.Local == (rd a1 x5_1).Name.Local && ((rd a0 x5_1).Value == (rd a1 x5_1).Value && true)))))))], []⟩) [⟨true, [(0, (L 3 e_api_Attr a0))], (L 3 e_api_Attr a0)⟩, ⟨true, [(5, (.v (.int .i64 x5_1)))], (.v (.int .i64 x5_1))⟩, ⟨true, [(17, (L 3 e_api_Attr a0)), (18, (.v (.int .i64 x5_1)))], (.fp (e_api_Attr (rd a0 x5_1)) 0)⟩, ⟨true, [(19, (.fp (e_api_Attr (rd a0 x5_1)) 0))], (.agg (e_api_Attr (rd a0 x5_1)))⟩, ⟨true, [(1, (L 3 e_api_Attr a1))], (L 3 e_api_Attr a1)⟩, ⟨true, [(5, (.v (.int .i64 x5_1)))], (.v (.int .i64 x5_1))⟩, ⟨true, [(21, (L 3 e_api_Attr a1)), (22, (.v (.int .i64 x5_1)))], (.fp (e_api_Attr (rd a1 x5_1)) 0)⟩, ⟨true, [(23, (.fp (e_api_Attr (rd a1 x5_1)) 0))], (.agg (e_api_Attr (rd a1 x5_1)))⟩, ⟨true, [(20, (.agg (e_api_Attr (rd a0 x5_1)))), (24, (.agg (e_api_Attr (rd a1 x5_1))))], (.v (.bool (!((rd a0 x5_1).Name.Space == (rd a1 x5_1).Name.Space && ((rd a0 x5_1).Name.Local == (rd a1 x5_1).Name.Local && ((rd a0 x5_1).Value == (rd a1 x5_1).Value && true))))))⟩] [[], [], [0, 1], [2], [], [], [4, 5], [6], [3, 7]] mixed (by kernel_rfl) ?_ ?_
        · refine TxtE.cons rfl ⟨.same _, trivial⟩ rfl (VOk.g (VOk.mv (d := (L 3 e_api_Attr a0)) rfl rfl)) ?_
          refine TxtE.cons rfl ⟨.same _, trivial⟩ rfl (VOk.g (VOk.mv (d := (.v (.int .i64 x5_1))) rfl rfl)) ?_
          refine TxtE.cons rfl ⟨.same _, .same _, trivial⟩ rfl (VOk.g (VOk.indexL (sz := 3) (e := e_api_Attr) (xs := a0) (i := x5_1) rfl Try.underlying50 sz54 rfl rfl c4)) ?_
          refine TxtE.cons rfl ⟨.same _, trivial⟩ rfl (VOk.g (VOk.to (d' := (.agg (e_api_Attr (rd a0 x5_1)))) (.loadFpAgg rfl Try.underlying54 rfl sz54 rfl rfl) rfl)) ?_
          refine TxtE.cons rfl ⟨.same _, trivial⟩ rfl (VOk.g (VOk.mv (d := (L 3 e_api_Attr a1)) rfl rfl)) ?_
          refine TxtE.cons rfl ⟨.same _, trivial⟩ rfl (VOk.g (VOk.mv (d := (.v (.int .i64 x5_1))) rfl rfl)) ?_
          refine TxtE.cons rfl ⟨.same _, .same _, trivial⟩ rfl (VOk.g (VOk.indexL (sz := 3) (e := e_api_Attr) (xs := a1) (i := x5_1) rfl Try.underlying50 sz54 rfl rfl c5)) ?_
          refine TxtE.cons rfl ⟨.same _, trivial⟩ rfl (VOk.g (VOk.to (d' := (.agg (e_api_Attr (rd a1 x5_1)))) (.loadFpAgg rfl Try.underlying54 rfl sz54 rfl rfl) rfl)) ?_
          refine TxtE.cons rfl ⟨.same _, .same _, trivial⟩ rfl (VOk.g (VOk.eqS' (op := .neq) (d := (.v (.bool (!((rd a0 x5_1).Name.Space == (rd a1 x5_1).Name.Space && ((rd a0 x5_1).Name.Local == (rd a1 x5_1).Name.Local && ((rd a0 x5_1).Value == (rd a1 x5_1).Value && true))))))) rfl (.inr rfl) (eqt54 9997) ag54 eg54 rfl rfl rfl rfl)) ?_
          exact .done (.mk ⟨.same _, .same _, .same _, .same _, trivial⟩ trivial)
        refine Ok.test (b := (!((rd a0 x5_1).Name.Space == (rd a1 x5_1).Name.Space && ((rd a0 x5_1).Name.Local == (rd a1 x5_1).Name.Local && ((rd a0 x5_1).Value == (rd a1 x5_1).Value && true))))) rfl (fun hb6 => ?_) (fun hb6 => ?_)
        · replace H := ifT H hb6
          refine Ok.seq ?_
          refine Ok.region (σ' := ⟨[(4, (.v (.bool false)))], []⟩) ?_ ?_
          · refine OpsOk.cons rfl (.v (VOk.asg (d := (.v (.bool false))) rfl rfl) rfl) ?_
            exact .done (.mk ⟨.same _, trivial⟩ trivial)
          refine Ok.le (σ' := ⟨[(4, (.v (.bool false)))], []⟩) (.mk ⟨.same _, trivial⟩ trivial) ?_
          refine Ok.ret ?_
          obtain rfl := Option.some.inj H
          exact ⟨.inl rfl, ⟨_, (.cons (.tmp rfl) .nil), rfl⟩, trivial⟩
        · replace H := ifF H hb6
          refine Ok.le (σ' := ⟨[(0, (L 3 e_api_Attr a0)), (1, (L 3 e_api_Attr a1)), (5, (.v (.int .i64 x5_1)))], []⟩) (.mk ⟨.same _, .same _, .same _, trivial⟩ trivial) ?_
          refine Ok.skip ?_
          refine Ok.region (σ' := ⟨[(0, (L 3 e_api_Attr a0)), (1, (L 3 e_api_Attr a1)), (5, (.v (.int .i64 (IntKind.i64.wrap (x5_1 + 1)))))], []⟩) ?_ ?_
          · refine OpsOk.cons rfl (.v (VOk.mv (d := (.v (.int .i64 x5_1))) rfl rfl) rfl) ?_
            refine OpsOk.cons rfl (.v (VOk.arith (op := .add) (k := .i64) (a := x5_1) (b := 1) rfl rfl rfl rfl) rfl) ?_
            refine OpsOk.cons rfl (.v (VOk.asg (d := (.v (.int .i64 (IntKind.i64.wrap (x5_1 + 1))))) rfl rfl) rfl) ?_
            exact .done (.mk ⟨.same _, .same _, .same _, trivial⟩ trivial)
          exact ⟨m3, Nat.lt_succ_self m3, (IntKind.i64.wrap (x5_1 + 1)), rfl, H⟩
      · replace H := ifF H hb7
        refine Ok.le (σ' := ⟨[], []⟩) (.mk trivial trivial) ?_
        refine Ok.exit ?_
        refine Ok.seq ?_
        refine Ok.region (σ' := ⟨[(4, (.v (.bool true)))], []⟩) ?_ ?_
        · refine OpsOk.cons rfl (.v (VOk.asg (d := (.v (.bool true))) rfl rfl) rfl) ?_
          exact .done (.mk ⟨.same _, trivial⟩ trivial)
        refine Ok.le (σ' := ⟨[(4, (.v (.bool true)))], []⟩) (.mk ⟨.same _, trivial⟩ trivial) ?_
        refine Ok.ret ?_
        obtain rfl := Option.some.inj H
        exact ⟨.inl rfl, ⟨_, (.cons (.tmp rfl) .nil), rfl⟩, trivial⟩

end Go.Proofs.Ythiopccchgkjcaa.Sh
