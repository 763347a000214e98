import Derived.Test.YthiopccchgkjcaaProg
import Derived.Test.YthiopccchgkjcaaSha
namespace Go.Proofs.Ythiopccchgkjcaa.Sh
open Go Go.RowKit Go.Proofs.Vx
set_option linter.unusedVariables false

set_option maxRecDepth 100000
set_option maxHeartbeats 1000000
/-! watchbill/watchbillref02.Split: function 11 -/
def watchbillref02_Split.l0 (k : Nat) (a0 : Str) : Nat → Int → Option (Str × Str × Bool)
  | 0, _ => none
  | m + 1, x5_1 => (if (decide (x5_1 < (a0.length : Int))) = true then (if (0 : Int) ≤ x5_1 ∧ x5_1 < (a0.length : Int) then (if ((bt a0 x5_1) == 58) = true then (if (0 : Int) ≤ 0 ∧ 0 ≤ x5_1 ∧ x5_1 ≤ (a0.length : Int) then (if (0 : Int) ≤ (IntKind.i64.wrap (x5_1 + 1)) ∧ (IntKind.i64.wrap (x5_1 + 1)) ≤ (a0.length : Int) ∧ (a0.length : Int) ≤ (a0.length : Int) then ((watchbillref01_Name k (sl a0 0 x5_1)).bind fun (t6 : Bool) => (((if (t6 == true) = true then watchbillref01_Name k (sl a0 (IntKind.i64.wrap (x5_1 + 1)) (a0.length : Int)) else some default)).bind fun (t9 : Bool) => (if (t6 && t9) = true then some ((sl a0 0 x5_1), (sl a0 (IntKind.i64.wrap (x5_1 + 1)) (a0.length : Int)), true) else some (([] : Str), ([] : Str), false)))) else none) else none) else watchbillref02_Split.l0 k a0 m (IntKind.i64.wrap (x5_1 + 1))) else none) else ((watchbillref01_Name k a0).bind fun (t14 : Bool) => (if t14 = true then some (([] : Str), a0, true) else some (([] : Str), ([] : Str), false))))
def watchbillref02_Split (k : Nat) (a0 : Str) : Option (Str × Str × Bool) := watchbillref02_Split.l0 k a0 k 0
theorem watchbillref02_Split.ok {k : Nat} {a0 : Str} {r : Str × Str × Bool} (H : watchbillref02_Split k a0 = some r) : Vx.Fn Try.prog 11 [(S a0)] [] (.tup [(S r.1), (S r.2.1), (.v (.bool r.2.2))]) [] := by
  unfold watchbillref02_Split at H
  refine Vx.Fn.of_okR Try.func11 rfl (Nat.le_of_ble_eq_true rfl) ?_
  refine Ok.seq ?_
  refine Ok.region (σ' := ⟨[(0, (S a0))], []⟩) ?_ ?_
  · refine OpsOk.cons rfl (.v (VOk.asg (d := (S ([] : Str))) rfl rfl) rfl) ?_
    refine OpsOk.cons rfl (.v (VOk.asg (d := (S ([] : Str))) rfl rfl) rfl) ?_
    refine OpsOk.cons rfl (.v (VOk.asg (d := (.v (.bool false))) rfl rfl) rfl) ?_
    exact .done (.mk ⟨.same _, trivial⟩ trivial)
  refine Ok.seq ?_
  refine Ok.seq ?_
  refine Ok.region (σ' := ⟨[(0, (S a0)), (5, (.v (.int .i64 0)))], []⟩) ?_ ?_
  · refine OpsOk.cons rfl (.v (VOk.asg (d := (.v (.int .i64 0))) rfl rfl) rfl) ?_
    exact .done (.mk ⟨.same _, .same _, trivial⟩ trivial)
  refine Ok.block ?_
  refine Ok.le (σ' := ⟨[(0, (S a0)), (5, (.v (.int .i64 0)))], []⟩) (.mk ⟨.same _, .same _, trivial⟩ trivial) ?_
  refine Ok.loop (fun m σ => ∃ (x5_1 : Int), σ = ⟨[(0, (S a0)), (5, (.v (.int .i64 x5_1)))], []⟩ ∧ watchbillref02_Split.l0 k a0 m x5_1 = some r) k ⟨0, rfl, H⟩ ?_
  rintro m σ ⟨x5_1, rfl, H⟩
  cases m with
  | zero => exact absurd H (by simp [watchbillref02_Split.l0])
  | succ m =>
    unfold watchbillref02_Split.l0 at H
    refine Ok.seq ?_
    refine Ok.seq ?_
    refine Ok.region (σ' := ⟨[(0, (S a0)), (5, (.v (.int .i64 x5_1))), (11, (.v (.bool (decide (x5_1 < (a0.length : Int))))))], []⟩) ?_ ?_
    · refine OpsOk.cons rfl (.v (VOk.mv (d := (.v (.int .i64 x5_1))) rfl rfl) rfl) ?_
      refine OpsOk.cons rfl (.v (VOk.mv (d := (S a0)) rfl rfl) rfl) ?_
      refine OpsOk.cons rfl (.v (VOk.lenStr (s := a0) rfl Try.underlying9 rfl) rfl) ?_
      refine OpsOk.cons rfl (.v (VOk.arith (op := .lss) (k := .i64) (a := x5_1) (b := (a0.length : Int)) rfl rfl rfl rfl) rfl) ?_
      exact .done (.mk ⟨.same _, .same _, .same _, trivial⟩ trivial)
    refine Ok.test (b := (decide (x5_1 < (a0.length : Int)))) rfl (fun hb17 => ?_) (fun hb17 => ?_)
    · replace H := ifT H hb17
      refine Ok.le (σ' := ⟨[(0, (S a0)), (5, (.v (.int .i64 x5_1)))], []⟩) (.mk ⟨.same _, .same _, trivial⟩ trivial) ?_
      refine Ok.skip ?_
      refine Ok.seq ?_
      refine Ok.block ?_
      refine Ok.seq ?_
      obtain ⟨c3, H⟩ := assertE H
      refine Ok.region (σ' := ⟨[(0, (S a0)), (5, (.v (.int .i64 x5_1))), (17, (.v (.bool ((bt a0 x5_1) == 58))))], []⟩) ?_ ?_
      · refine OpsOk.cons rfl (.v (VOk.mv (d := (S a0)) rfl rfl) rfl) ?_
        refine OpsOk.cons rfl (.v (VOk.mv (d := (.v (.int .i64 x5_1))) rfl rfl) rfl) ?_
        refine OpsOk.cons rfl (.v (VOk.indexStr (s := a0) (i := x5_1) rfl Try.underlying9 rfl rfl c3) rfl) ?_
        refine OpsOk.cons rfl (.v (VOk.arith (op := .eql) (k := .u8) (a := (bt a0 x5_1)) (b := 58) rfl rfl rfl rfl) rfl) ?_
        exact .done (.mk ⟨.same _, .same _, .same _, trivial⟩ trivial)
      refine Ok.test (b := ((bt a0 x5_1) == 58)) rfl (fun hb13 => ?_) (fun hb13 => ?_)
      · replace H := ifT H hb13
        refine Ok.seq ?_
        obtain ⟨c4, H⟩ := assertE H
        obtain ⟨c5, H⟩ := assertE H
        refine Ok.drawE (σ' := ⟨[(6, (S (sl a0 0 x5_1))), (7, (S (sl a0 (IntKind.i64.wrap (x5_1 + 1)) (a0.length : Int))))], []⟩) [⟨true, [(0, (S a0))], (S a0)⟩, ⟨true, [(5, (.v (.int .i64 x5_1)))], (.v (.int .i64 x5_1))⟩, ⟨true, [(18, (S a0)), (19, (.v (.int .i64 x5_1)))], (S (sl a0 0 x5_1))⟩, ⟨true, [(0, (S a0))], (S a0)⟩, ⟨true, [(5, (.v (.int .i64 x5_1)))], (.v (.int .i64 x5_1))⟩, ⟨true, [(22, (.v (.int .i64 x5_1)))], (.v (.int .i64 (IntKind.i64.wrap (x5_1 + 1))))⟩, ⟨true, [(21, (S a0)), (23, (.v (.int .i64 (IntKind.i64.wrap (x5_1 + 1)))))], (S (sl a0 (IntKind.i64.wrap (x5_1 + 1)) (a0.length : Int)))⟩, ⟨true, [(20, (S (sl a0 0 x5_1)))], (S (sl a0 0 x5_1))⟩, ⟨true, [(24, (S (sl a0 (IntKind.i64.wrap (x5_1 + 1)) (a0.length : Int))))], (S (sl a0 (IntKind.i64.wrap (x5_1 + 1)) (a0.length : Int)))⟩] [[], [], [0, 1], [], [], [4], [3, 5], [2], [6]] mixed (by kernel_rfl) ?_ ?_
        · refine TxtE.cons rfl ⟨.same _, trivial⟩ rfl (VOk.g (VOk.mv (d := (S a0)) rfl rfl)) ?_
          refine TxtE.cons rfl ⟨.same _, trivial⟩ rfl (VOk.g (VOk.mv (d := (.v (.int .i64 x5_1))) rfl rfl)) ?_
          refine TxtE.cons rfl ⟨.same _, .same _, trivial⟩ rfl (VOk.g (VOk.sliceStr (s := a0) (l := 0) (h := x5_1) rfl Try.underlying9 rfl rfl rfl c4)) ?_
          refine TxtE.cons rfl ⟨.same _, trivial⟩ rfl (VOk.g (VOk.mv (d := (S a0)) rfl rfl)) ?_
          refine TxtE.cons rfl ⟨.same _, trivial⟩ rfl (VOk.g (VOk.mv (d := (.v (.int .i64 x5_1))) rfl rfl)) ?_
          refine TxtE.cons rfl ⟨.same _, trivial⟩ rfl (VOk.g (VOk.arith (op := .add) (k := .i64) (a := x5_1) (b := 1) rfl rfl rfl rfl)) ?_
          refine TxtE.cons rfl ⟨.same _, .same _, trivial⟩ rfl (VOk.g (VOk.sliceStr (s := a0) (l := (IntKind.i64.wrap (x5_1 + 1))) (h := (a0.length : Int)) rfl Try.underlying9 rfl rfl rfl c5)) ?_
          refine TxtE.cons rfl ⟨.same _, trivial⟩ rfl (VOk.g (VOk.asg (d := (S (sl a0 0 x5_1))) rfl rfl)) ?_
          refine TxtE.cons rfl ⟨.same _, trivial⟩ rfl (VOk.g (VOk.asg (d := (S (sl a0 (IntKind.i64.wrap (x5_1 + 1)) (a0.length : Int)))) rfl rfl)) ?_
          exact .done (.mk ⟨.same _, .same _, trivial⟩ trivial)
        refine Ok.seq ?_
        refine Ok.seq ?_
        obtain ⟨t6, h7, H⟩ := bindE H
        obtain ⟨t9, h10, H⟩ := bindE H
        refine Ok.region (σ' := ⟨[(6, (S (sl a0 0 x5_1))), (7, (S (sl a0 (IntKind.i64.wrap (x5_1 + 1)) (a0.length : Int)))), (30, (.v (.bool (t6 && t9))))], []⟩) ?_ ?_
        · refine OpsOk.cons rfl (.v (VOk.mv (d := (S (sl a0 0 x5_1))) rfl rfl) rfl) ?_
          refine OpsOk.cons rfl (.g (GOk.call rfl rfl cl29 rfl (watchbillref01_Name.ok h7) rfl) rfl) ?_
          refine OpsOk.cons rfl (.v (VOk.mv (d := (.v (.bool t6))) rfl rfl) rfl) ?_
          refine OpsOk.consI rfl rfl rfl (.one rfl) rfl (fun hw8 => (VOk.g (VOk.mv (d := (S (sl a0 (IntKind.i64.wrap (x5_1 + 1)) (a0.length : Int)))) rfl rfl))) ?_
          refine OpsOk.consI rfl rfl rfl (.one rfl) rfl (fun hw8 => (GOk.fr (fr' := [(28, (S (sl a0 (IntKind.i64.wrap (x5_1 + 1)) (a0.length : Int))))]) ⟨DLe.of_eq (cT hw8).symm, trivial⟩ (GOk.call rfl rfl cl29 rfl (watchbillref01_Name.ok (ifT h10 hw8)) rfl))) ?_
          refine OpsOk.cons rfl (.v (VOk.to (VOk.pickI (b := t6) (p := t9) (q := false) rfl rfl (fun hp11 => (cT (t_beq hp11))) (fun hp11 => rfl)) (pickAnd t6 t9)) rfl) ?_
          exact .done (.mk ⟨.same _, .same _, .same _, trivial⟩ trivial)
        refine Ok.test (b := (t6 && t9)) rfl (fun hb12 => ?_) (fun hb12 => ?_)
        · replace H := ifT H hb12
          refine Ok.seq ?_
          refine Ok.region (σ' := ⟨[(2, (S (sl a0 0 x5_1))), (3, (S (sl a0 (IntKind.i64.wrap (x5_1 + 1)) (a0.length : Int)))), (4, (.v (.bool true)))], []⟩) ?_ ?_
          · refine OpsOk.cons rfl (.v (VOk.mv (d := (S (sl a0 0 x5_1))) rfl rfl) rfl) ?_
            refine OpsOk.cons rfl (.v (VOk.mv (d := (S (sl a0 (IntKind.i64.wrap (x5_1 + 1)) (a0.length : Int)))) rfl rfl) rfl) ?_
            refine OpsOk.cons rfl (.v (VOk.asg (d := (S (sl a0 0 x5_1))) rfl rfl) rfl) ?_
            refine OpsOk.cons rfl (.v (VOk.asg (d := (S (sl a0 (IntKind.i64.wrap (x5_1 + 1)) (a0.length : Int)))) rfl rfl) rfl) ?_
            refine OpsOk.cons rfl (.v (VOk.asg (d := (.v (.bool true))) rfl rfl) rfl) ?_
            exact .done (.mk ⟨.same _, .same _, .same _, trivial⟩ trivial)
          refine Ok.le (σ' := ⟨[(2, (S (sl a0 0 x5_1))), (3, (S (sl a0 (IntKind.i64.wrap (x5_1 + 1)) (a0.length : Int)))), (4, (.v (.bool true)))], []⟩) (.mk ⟨.same _, .same _, .same _, trivial⟩ trivial) ?_
          refine Ok.ret ?_
          obtain rfl := Option.some.inj H
          exact ⟨.inl rfl, ⟨_, (.cons (.tmp rfl) (.cons (.tmp rfl) (.cons (.tmp rfl) .nil))), rfl⟩, trivial⟩
        · replace H := ifF H hb12
          refine Ok.le (σ' := ⟨[], []⟩) (.mk trivial trivial) ?_
          refine Ok.skip ?_
          refine Ok.seq ?_
          refine Ok.region (σ' := ⟨[(2, (S ([] : Str))), (3, (S ([] : Str))), (4, (.v (.bool false)))], []⟩) ?_ ?_
          · refine OpsOk.cons rfl (.v (VOk.asg (d := (S ([] : Str))) rfl rfl) rfl) ?_
            refine OpsOk.cons rfl (.v (VOk.asg (d := (S ([] : Str))) rfl rfl) rfl) ?_
            refine OpsOk.cons rfl (.v (VOk.asg (d := (.v (.bool false))) rfl rfl) rfl) ?_
            exact .done (.mk ⟨.same _, .same _, .same _, trivial⟩ trivial)
          refine Ok.le (σ' := ⟨[(2, (S ([] : Str))), (3, (S ([] : Str))), (4, (.v (.bool false)))], []⟩) (.mk ⟨.same _, .same _, .same _, trivial⟩ trivial) ?_
          refine Ok.ret ?_
          obtain rfl := Option.some.inj H
          exact ⟨.inl rfl, ⟨_, (.cons (.tmp rfl) (.cons (.tmp rfl) (.cons (.tmp rfl) .nil))), rfl⟩, trivial⟩
      · replace H := ifF H hb13
        refine Ok.le (σ' := ⟨[(0, (S a0)), (5, (.v (.int .i64 x5_1)))], []⟩) (.mk ⟨.same _, .same _, trivial⟩ trivial) ?_
        refine Ok.skip ?_
        refine Ok.region (σ' := ⟨[(0, (S a0)), (5, (.v (.int .i64 (IntKind.i64.wrap (x5_1 + 1)))))], []⟩) ?_ ?_
        · refine OpsOk.cons rfl (.v (VOk.mv (d := (.v (.int .i64 x5_1))) rfl rfl) rfl) ?_
          refine OpsOk.cons rfl (.v (VOk.arith (op := .add) (k := .i64) (a := x5_1) (b := 1) rfl rfl rfl rfl) rfl) ?_
          refine OpsOk.cons rfl (.v (VOk.asg (d := (.v (.int .i64 (IntKind.i64.wrap (x5_1 + 1))))) rfl rfl) rfl) ?_
          exact .done (.mk ⟨.same _, .same _, trivial⟩ trivial)
        exact ⟨m, Nat.lt_succ_self m, (IntKind.i64.wrap (x5_1 + 1)), rfl, H⟩
    · replace H := ifF H hb17
      refine Ok.le (σ' := ⟨[(0, (S a0))], []⟩) (.mk ⟨.same _, trivial⟩ trivial) ?_
      refine Ok.exit ?_
      refine Ok.seq ?_
      refine Ok.seq ?_
      obtain ⟨t14, h15, H⟩ := bindE H
      refine Ok.region (σ' := ⟨[(0, (S a0)), (34, (.v (.bool t14)))], []⟩) ?_ ?_
      · refine OpsOk.cons rfl (.v (VOk.mv (d := (S a0)) rfl rfl) rfl) ?_
        refine OpsOk.cons rfl (.g (GOk.call rfl rfl cl29 rfl (watchbillref01_Name.ok h15) rfl) rfl) ?_
        exact .done (.mk ⟨.same _, .same _, trivial⟩ trivial)
      refine Ok.test (b := t14) rfl (fun hb16 => ?_) (fun hb16 => ?_)
      · replace H := ifT H hb16
        refine Ok.seq ?_
        refine Ok.region (σ' := ⟨[(2, (S ([] : Str))), (3, (S a0)), (4, (.v (.bool true)))], []⟩) ?_ ?_
        · refine OpsOk.cons rfl (.v (VOk.mv (d := (S a0)) rfl rfl) rfl) ?_
          refine OpsOk.cons rfl (.v (VOk.asg (d := (S ([] : Str))) rfl rfl) rfl) ?_
          refine OpsOk.cons rfl (.v (VOk.asg (d := (S a0)) rfl rfl) rfl) ?_
          refine OpsOk.cons rfl (.v (VOk.asg (d := (.v (.bool true))) rfl rfl) rfl) ?_
          exact .done (.mk ⟨.same _, .same _, .same _, trivial⟩ trivial)
        refine Ok.le (σ' := ⟨[(2, (S ([] : Str))), (3, (S a0)), (4, (.v (.bool true)))], []⟩) (.mk ⟨.same _, .same _, .same _, trivial⟩ trivial) ?_
        refine Ok.ret ?_
        obtain rfl := Option.some.inj H
        exact ⟨.inl rfl, ⟨_, (.cons (.tmp rfl) (.cons (.tmp rfl) (.cons (.tmp rfl) .nil))), rfl⟩, trivial⟩
      · replace H := ifF H hb16
        refine Ok.le (σ' := ⟨[], []⟩) (.mk trivial trivial) ?_
        refine Ok.skip ?_
        refine Ok.seq ?_
        refine Ok.region (σ' := ⟨[(2, (S ([] : Str))), (3, (S ([] : Str))), (4, (.v (.bool false)))], []⟩) ?_ ?_
        · refine OpsOk.cons rfl (.v (VOk.asg (d := (S ([] : Str))) rfl rfl) rfl) ?_
          refine OpsOk.cons rfl (.v (VOk.asg (d := (S ([] : Str))) rfl rfl) rfl) ?_
          refine OpsOk.cons rfl (.v (VOk.asg (d := (.v (.bool false))) rfl rfl) rfl) ?_
          exact .done (.mk ⟨.same _, .same _, .same _, trivial⟩ trivial)
        refine Ok.le (σ' := ⟨[(2, (S ([] : Str))), (3, (S ([] : Str))), (4, (.v (.bool false)))], []⟩) (.mk ⟨.same _, .same _, .same _, trivial⟩ trivial) ?_
        refine Ok.ret ?_
        obtain rfl := Option.some.inj H
        exact ⟨.inl rfl, ⟨_, (.cons (.tmp rfl) (.cons (.tmp rfl) (.cons (.tmp rfl) .nil))), rfl⟩, trivial⟩

/-! watchbill/watchbilllaw02.QnameSplits: function 3 -/
def watchbilllaw02_QnameSplits (k : Nat) (a0 : Str) : Option Bool := ((watchbilllaw02_awake k).bind fun (t1 : Bool) => (if (!t1) = true then some false else (if (decide ((a0.length : Int) > 5000)) = true then some true else ((qname_Split k a0).bind fun (t3 : Str × Str × Bool) => ((watchbillref02_Split k a0).bind fun (t5 : Str × Str × Bool) => (if (((!(t3.1 == t5.1)) || (!(t3.2.1 == t5.2.1))) || (!(t3.2.2 == t5.2.2))) = true then some false else (if ((((!t3.2.2) || ((t3.1 == ([] : Str)) && (t3.2.1 == a0))) == false) = true → t3.1.length + ([58] : Str).length ≤ 9223372036854775807) then (if ((((!t3.2.2) || ((t3.1 == ([] : Str)) && (t3.2.1 == a0))) == false) = true → (t3.1 ++ ([58] : Str)).length + t3.2.1.length ≤ 9223372036854775807) then some (((!t3.2.2) || ((t3.1 == ([] : Str)) && (t3.2.1 == a0))) || (((t3.1 ++ ([58] : Str)) ++ t3.2.1) == a0)) else none) else none)))))))
theorem watchbilllaw02_QnameSplits.ok {k : Nat} {a0 : Str} {r : Bool} (H : watchbilllaw02_QnameSplits k a0 = some r) : Vx.Fn Try.prog 3 [(S a0)] [] (.v (.bool r)) [] := by
  unfold watchbilllaw02_QnameSplits at H
  refine Vx.Fn.of_okR Try.func3 rfl (Nat.le_of_ble_eq_true rfl) ?_
  refine Ok.seq ?_
  refine Ok.region (σ' := ⟨[(0, (S a0))], []⟩) ?_ ?_
  · refine OpsOk.cons rfl (.v (VOk.asg (d := (.v (.bool false))) rfl rfl) rfl) ?_
    exact .done (.mk ⟨.same _, trivial⟩ trivial)
  refine Ok.seq ?_
  refine Ok.seq ?_
  obtain ⟨t1, h2, H⟩ := bindE H
  refine Ok.region (σ' := ⟨[(0, (S a0)), (10, (.v (.bool (!t1))))], []⟩) ?_ ?_
  · refine OpsOk.cons rfl (.g (GOk.call rfl rfl cl9 rfl (watchbilllaw02_awake.ok h2) rfl) rfl) ?_
    refine OpsOk.cons rfl (.v (VOk.not (b := t1) rfl rfl) rfl) ?_
    exact .done (.mk ⟨.same _, .same _, trivial⟩ trivial)
  refine Ok.test (b := (!t1)) rfl (fun hb21 => ?_) (fun hb21 => ?_)
  · replace H := ifT H hb21
    refine Ok.seq ?_
    refine Ok.region (σ' := ⟨[(2, (.v (.bool false)))], []⟩) ?_ ?_
    · refine OpsOk.cons rfl (.v (VOk.asg (d := (.v (.bool false))) rfl rfl) rfl) ?_
      exact .done (.mk ⟨.same _, trivial⟩ trivial)
    refine Ok.le (σ' := ⟨[(2, (.v (.bool false)))], []⟩) (.mk ⟨.same _, trivial⟩ trivial) ?_
    refine Ok.ret ?_
    obtain rfl := Option.some.inj H
    exact ⟨.inl rfl, ⟨_, (.cons (.tmp rfl) .nil), rfl⟩, trivial⟩
  · replace H := ifF H hb21
    refine Ok.le (σ' := ⟨[(0, (S a0))], []⟩) (.mk ⟨.same _, trivial⟩ trivial) ?_
    refine Ok.skip ?_
    refine Ok.seq ?_
    refine Ok.seq ?_
    refine Ok.region (σ' := ⟨[(0, (S a0)), (13, (.v (.bool (decide ((a0.length : Int) > 5000)))))], []⟩) ?_ ?_
    · refine OpsOk.cons rfl (.v (VOk.mv (d := (S a0)) rfl rfl) rfl) ?_
      refine OpsOk.cons rfl (.v (VOk.lenStr (s := a0) rfl Try.underlying9 rfl) rfl) ?_
      refine OpsOk.cons rfl (.v (VOk.arith (op := .gtr) (k := .i64) (a := (a0.length : Int)) (b := 5000) rfl rfl rfl rfl) rfl) ?_
      exact .done (.mk ⟨.same _, .same _, trivial⟩ trivial)
    refine Ok.test (b := (decide ((a0.length : Int) > 5000))) rfl (fun hb20 => ?_) (fun hb20 => ?_)
    · replace H := ifT H hb20
      refine Ok.seq ?_
      refine Ok.region (σ' := ⟨[(2, (.v (.bool true)))], []⟩) ?_ ?_
      · refine OpsOk.cons rfl (.v (VOk.asg (d := (.v (.bool true))) rfl rfl) rfl) ?_
        exact .done (.mk ⟨.same _, trivial⟩ trivial)
      refine Ok.le (σ' := ⟨[(2, (.v (.bool true)))], []⟩) (.mk ⟨.same _, trivial⟩ trivial) ?_
      refine Ok.ret ?_
      obtain rfl := Option.some.inj H
      exact ⟨.inl rfl, ⟨_, (.cons (.tmp rfl) .nil), rfl⟩, trivial⟩
    · replace H := ifF H hb20
      refine Ok.le (σ' := ⟨[(0, (S a0))], []⟩) (.mk ⟨.same _, trivial⟩ trivial) ?_
      refine Ok.skip ?_
      refine Ok.seq ?_
      obtain ⟨t3, h4, H⟩ := bindE H
      refine Ok.region (σ' := ⟨[(0, (S a0)), (3, (S t3.1)), (4, (S t3.2.1)), (5, (.v (.bool t3.2.2)))], []⟩) ?_ ?_
      · refine OpsOk.cons rfl (.v (VOk.mv (d := (S a0)) rfl rfl) rfl) ?_
        refine OpsOk.cons rfl (.g (GOk.call rfl rfl cl10 rfl (qname_Split.ok h4) rfl) rfl) ?_
        refine OpsOk.cons rfl (.v (VOk.mv (d := (.tup [(S t3.1), (S t3.2.1), (.v (.bool t3.2.2))])) rfl rfl) rfl) ?_
        refine OpsOk.cons rfl (.v (VOk.extract (d := (S t3.1)) rfl rfl rfl) rfl) ?_
        refine OpsOk.cons rfl (.v (VOk.extract (d := (S t3.2.1)) rfl rfl rfl) rfl) ?_
        refine OpsOk.cons rfl (.v (VOk.extract (d := (.v (.bool t3.2.2))) rfl rfl rfl) rfl) ?_
        refine OpsOk.cons rfl (.v (VOk.asg (d := (S t3.1)) rfl rfl) rfl) ?_
        refine OpsOk.cons rfl (.v (VOk.asg (d := (S t3.2.1)) rfl rfl) rfl) ?_
        refine OpsOk.cons rfl (.v (VOk.asg (d := (.v (.bool t3.2.2))) rfl rfl) rfl) ?_
        exact .done (.mk ⟨.same _, .same _, .same _, .same _, trivial⟩ trivial)
      refine Ok.seq ?_
      obtain ⟨t5, h6, H⟩ := bindE H
      refine Ok.region (σ' := ⟨[(0, (S a0)), (3, (S t3.1)), (4, (S t3.2.1)), (5, (.v (.bool t3.2.2))), (6, (S t5.1)), (7, (S t5.2.1)), (8, (.v (.bool t5.2.2)))], []⟩) ?_ ?_
      · refine OpsOk.cons rfl (.v (VOk.mv (d := (S a0)) rfl rfl) rfl) ?_
        refine OpsOk.cons rfl (.g (GOk.call rfl rfl cl11 rfl (watchbillref02_Split.ok h6) rfl) rfl) ?_
        refine OpsOk.cons rfl (.v (VOk.mv (d := (.tup [(S t5.1), (S t5.2.1), (.v (.bool t5.2.2))])) rfl rfl) rfl) ?_
        refine OpsOk.cons rfl (.v (VOk.extract (d := (S t5.1)) rfl rfl rfl) rfl) ?_
        refine OpsOk.cons rfl (.v (VOk.extract (d := (S t5.2.1)) rfl rfl rfl) rfl) ?_
        refine OpsOk.cons rfl (.v (VOk.extract (d := (.v (.bool t5.2.2))) rfl rfl rfl) rfl) ?_
        refine OpsOk.cons rfl (.v (VOk.asg (d := (S t5.1)) rfl rfl) rfl) ?_
        refine OpsOk.cons rfl (.v (VOk.asg (d := (S t5.2.1)) rfl rfl) rfl) ?_
        refine OpsOk.cons rfl (.v (VOk.asg (d := (.v (.bool t5.2.2))) rfl rfl) rfl) ?_
        exact .done (.mk ⟨.same _, .same _, .same _, .same _, .same _, .same _, .same _, trivial⟩ trivial)
      refine Ok.seq ?_
      refine Ok.seq ?_
      refine Ok.region (σ' := ⟨[(0, (S a0)), (3, (S t3.1)), (4, (S t3.2.1)), (5, (.v (.bool t3.2.2))), (38, (.v (.bool (((!(t3.1 == t5.1)) || (!(t3.2.1 == t5.2.1))) || (!(t3.2.2 == t5.2.2))))))], []⟩) ?_ ?_
      · refine OpsOk.cons rfl (.v (VOk.mv (d := (S t3.1)) rfl rfl) rfl) ?_
        refine OpsOk.cons rfl (.v (VOk.mv (d := (S t5.1)) rfl rfl) rfl) ?_
        refine OpsOk.cons rfl (.v (VOk.strOp (op := .neq) (a := t3.1) (b := t5.1) rfl rfl rfl rfl) rfl) ?_
        refine OpsOk.cons rfl (.v (VOk.mv (d := (.v (.bool (!(t3.1 == t5.1))))) rfl rfl) rfl) ?_
        refine OpsOk.consI rfl rfl rfl (.one rfl) rfl (fun hw7 => (VOk.g (VOk.mv (d := (S t3.2.1)) rfl rfl))) ?_
        refine OpsOk.consI rfl rfl rfl (.one rfl) rfl (fun hw7 => (VOk.g (VOk.mv (d := (S t5.2.1)) rfl rfl))) ?_
        refine OpsOk.consI rfl rfl rfl (.one rfl) rfl (fun hw7 => (GOk.fr (fr' := [(30, (S t3.2.1)), (31, (S t5.2.1))]) ⟨DLe.of_eq (cT hw7).symm, DLe.of_eq (cT hw7).symm, trivial⟩ (VOk.g (VOk.strOp (op := .neq) (a := t3.2.1) (b := t5.2.1) rfl rfl rfl rfl)))) ?_
        refine OpsOk.cons rfl (.v (VOk.to (VOk.pickI (b := (!(t3.1 == t5.1))) (p := true) (q := (!(t3.2.1 == t5.2.1))) rfl rfl (fun hp8 => rfl) (fun hp8 => (cT (f_beq hp8)))) (pickOr (!(t3.1 == t5.1)) (!(t3.2.1 == t5.2.1)))) rfl) ?_
        refine OpsOk.cons rfl (.v (VOk.mv (d := (.v (.bool ((!(t3.1 == t5.1)) || (!(t3.2.1 == t5.2.1)))))) rfl rfl) rfl) ?_
        refine OpsOk.consI rfl rfl rfl (.one rfl) rfl (fun hw9 => (VOk.g (VOk.mv (d := (.v (.bool t3.2.2))) rfl rfl))) ?_
        refine OpsOk.consI rfl rfl rfl (.one rfl) rfl (fun hw9 => (VOk.g (VOk.mv (d := (.v (.bool t5.2.2))) rfl rfl))) ?_
        refine OpsOk.consI rfl rfl rfl (.one rfl) rfl (fun hw9 => (GOk.fr (fr' := [(35, (.v (.bool t3.2.2))), (36, (.v (.bool t5.2.2)))]) ⟨DLe.of_eq (cT hw9).symm, DLe.of_eq (cT hw9).symm, trivial⟩ (VOk.g (VOk.eqB (op := .neq) (p := t3.2.2) (q := t5.2.2) rfl (.inr rfl) Try.underlying4 rfl rfl)))) ?_
        refine OpsOk.cons rfl (.v (VOk.to (VOk.pickI (b := ((!(t3.1 == t5.1)) || (!(t3.2.1 == t5.2.1)))) (p := true) (q := (!(t3.2.2 == t5.2.2))) rfl rfl (fun hp10 => rfl) (fun hp10 => (cT (f_beq hp10)))) (pickOr ((!(t3.1 == t5.1)) || (!(t3.2.1 == t5.2.1))) (!(t3.2.2 == t5.2.2)))) rfl) ?_
        exact .done (.mk ⟨.same _, .same _, .same _, .same _, .same _, trivial⟩ trivial)
      refine Ok.test (b := (((!(t3.1 == t5.1)) || (!(t3.2.1 == t5.2.1))) || (!(t3.2.2 == t5.2.2)))) rfl (fun hb19 => ?_) (fun hb19 => ?_)
      · replace H := ifT H hb19
        refine Ok.seq ?_
        refine Ok.region (σ' := ⟨[(2, (.v (.bool false)))], []⟩) ?_ ?_
        · refine OpsOk.cons rfl (.v (VOk.asg (d := (.v (.bool false))) rfl rfl) rfl) ?_
          exact .done (.mk ⟨.same _, trivial⟩ trivial)
        refine Ok.le (σ' := ⟨[(2, (.v (.bool false)))], []⟩) (.mk ⟨.same _, trivial⟩ trivial) ?_
        refine Ok.ret ?_
        obtain rfl := Option.some.inj H
        exact ⟨.inl rfl, ⟨_, (.cons (.tmp rfl) .nil), rfl⟩, trivial⟩
      · replace H := ifF H hb19
        refine Ok.le (σ' := ⟨[(0, (S a0)), (3, (S t3.1)), (4, (S t3.2.1)), (5, (.v (.bool t3.2.2)))], []⟩) (.mk ⟨.same _, .same _, .same _, .same _, trivial⟩ trivial) ?_
        refine Ok.skip ?_
        refine Ok.seq ?_
        obtain ⟨c16, H⟩ := assertE H
        obtain ⟨c17, H⟩ := assertE H
        refine Ok.region (σ' := ⟨[(2, (.v (.bool (((!t3.2.2) || ((t3.1 == ([] : Str)) && (t3.2.1 == a0))) || (((t3.1 ++ ([58] : Str)) ++ t3.2.1) == a0)))))], []⟩) ?_ ?_
        · refine OpsOk.cons rfl (.v (VOk.mv (d := (.v (.bool t3.2.2))) rfl rfl) rfl) ?_
          refine OpsOk.cons rfl (.v (VOk.not (b := t3.2.2) rfl rfl) rfl) ?_
          refine OpsOk.cons rfl (.v (VOk.mv (d := (.v (.bool (!t3.2.2)))) rfl rfl) rfl) ?_
          refine OpsOk.consI rfl rfl rfl (.one rfl) rfl (fun hw11 => (VOk.g (VOk.mv (d := (S t3.1)) rfl rfl))) ?_
          refine OpsOk.consI rfl rfl rfl (.one rfl) rfl (fun hw11 => (GOk.fr (fr' := [(42, (S t3.1))]) ⟨DLe.of_eq (cT hw11).symm, trivial⟩ (VOk.g (VOk.strOp (op := .eql) (a := t3.1) (b := ([] : Str)) rfl rfl rfl rfl)))) ?_
          refine OpsOk.consI rfl rfl rfl (.one rfl) rfl (fun hw11 => (GOk.fr (fr' := [(43, (.v (.bool (t3.1 == ([] : Str)))))]) ⟨DLe.of_eq (cT hw11).symm, trivial⟩ (VOk.g (VOk.mv (d := (.v (.bool (t3.1 == ([] : Str))))) rfl rfl)))) ?_
          refine OpsOk.consI rfl rfl rfl (.two rfl) rfl (fun hw12 => (VOk.g (VOk.mv (d := (S t3.2.1)) rfl rfl))) ?_
          refine OpsOk.consI rfl rfl rfl (.two rfl) rfl (fun hw12 => (VOk.g (VOk.mv (d := (S a0)) rfl rfl))) ?_
          refine OpsOk.consI rfl rfl rfl (.two rfl) rfl (fun hw12 => (GOk.fr (fr' := [(45, (S t3.2.1)), (46, (S a0))]) ⟨DLe.of_eq (cT hw12).symm, DLe.of_eq (cT hw12).symm, trivial⟩ (VOk.g (VOk.strOp (op := .eql) (a := t3.2.1) (b := a0) rfl rfl rfl rfl)))) ?_
          refine OpsOk.consI rfl rfl rfl (.one rfl) rfl (fun hw11 => (VOk.g (VOk.to (VOk.pickI (b := (t3.1 == ([] : Str))) (p := (t3.2.1 == a0)) (q := false) rfl (cT hw11) (fun hp13 => (cT (and_i hw11 (t_beq hp13)))) (fun hp13 => rfl)) (pickAnd (t3.1 == ([] : Str)) (t3.2.1 == a0))))) ?_
          refine OpsOk.cons rfl (.v (VOk.to (VOk.pickI (b := (!t3.2.2)) (p := true) (q := ((t3.1 == ([] : Str)) && (t3.2.1 == a0))) rfl rfl (fun hp14 => rfl) (fun hp14 => (cT (f_beq hp14)))) (pickOr (!t3.2.2) ((t3.1 == ([] : Str)) && (t3.2.1 == a0)))) rfl) ?_
          refine OpsOk.cons rfl (.v (VOk.mv (d := (.v (.bool ((!t3.2.2) || ((t3.1 == ([] : Str)) && (t3.2.1 == a0)))))) rfl rfl) rfl) ?_
          refine OpsOk.consI rfl rfl rfl (.one rfl) rfl (fun hw15 => (VOk.g (VOk.mv (d := (S t3.1)) rfl rfl))) ?_
          refine OpsOk.consI rfl rfl rfl (.one rfl) rfl (fun hw15 => (GOk.fr (fr' := [(51, (S t3.1))]) ⟨DLe.of_eq (cT hw15).symm, trivial⟩ (VOk.g (VOk.cat (a := t3.1) (b := ([58] : Str)) rfl rfl rfl (c16 hw15))))) ?_
          refine OpsOk.consI rfl rfl rfl (.one rfl) rfl (fun hw15 => (VOk.g (VOk.mv (d := (S t3.2.1)) rfl rfl))) ?_
          refine OpsOk.consI rfl rfl rfl (.one rfl) rfl (fun hw15 => (GOk.fr (fr' := [(52, (S (t3.1 ++ ([58] : Str)))), (53, (S t3.2.1))]) ⟨DLe.of_eq (cT hw15).symm, DLe.of_eq (cT hw15).symm, trivial⟩ (VOk.g (VOk.cat (a := (t3.1 ++ ([58] : Str))) (b := t3.2.1) rfl rfl rfl (c17 hw15))))) ?_
          refine OpsOk.consI rfl rfl rfl (.one rfl) rfl (fun hw15 => (VOk.g (VOk.mv (d := (S a0)) rfl rfl))) ?_
          refine OpsOk.consI rfl rfl rfl (.one rfl) rfl (fun hw15 => (GOk.fr (fr' := [(54, (S ((t3.1 ++ ([58] : Str)) ++ t3.2.1))), (55, (S a0))]) ⟨DLe.of_eq (cT hw15).symm, DLe.of_eq (cT hw15).symm, trivial⟩ (VOk.g (VOk.strOp (op := .eql) (a := ((t3.1 ++ ([58] : Str)) ++ t3.2.1)) (b := a0) rfl rfl rfl rfl)))) ?_
          refine OpsOk.cons rfl (.v (VOk.to (VOk.pickI (b := ((!t3.2.2) || ((t3.1 == ([] : Str)) && (t3.2.1 == a0)))) (p := true) (q := (((t3.1 ++ ([58] : Str)) ++ t3.2.1) == a0)) rfl rfl (fun hp18 => rfl) (fun hp18 => (cT (f_beq hp18)))) (pickOr ((!t3.2.2) || ((t3.1 == ([] : Str)) && (t3.2.1 == a0))) (((t3.1 ++ ([58] : Str)) ++ t3.2.1) == a0))) rfl) ?_
          refine OpsOk.cons rfl (.v (VOk.asg (d := (.v (.bool (((!t3.2.2) || ((t3.1 == ([] : Str)) && (t3.2.1 == a0))) || (((t3.1 ++ ([58] : Str)) ++ t3.2.1) == a0))))) rfl rfl) rfl) ?_
          exact .done (.mk ⟨.same _, trivial⟩ trivial)
        refine Ok.le (σ' := ⟨[(2, (.v (.bool (((!t3.2.2) || ((t3.1 == ([] : Str)) && (t3.2.1 == a0))) || (((t3.1 ++ ([58] : Str)) ++ t3.2.1) == a0)))))], []⟩) (.mk ⟨.same _, trivial⟩ trivial) ?_
        refine Ok.ret ?_
        obtain rfl := Option.some.inj H
        exact ⟨.inl rfl, ⟨_, (.cons (.tmp rfl) .nil), rfl⟩, trivial⟩

/-! watchbill/watchbilllaw02.Few: function 12 -/
def watchbilllaw02_Few.l0 (k : Nat) (a0 : List T_api_Bind) : Nat → Int → Int → Option Bool
  | 0, _, _ => none
  | m + 1, x3_1, x4_2 => (if ((decide (x4_2 < (a0.length : Int))) && (decide (x3_1 < 3000))) = true then (if (0 : Int) ≤ x4_2 ∧ x4_2 < (a0.length : Int) then (if (0 : Int) ≤ x4_2 ∧ x4_2 < (a0.length : Int) then watchbilllaw02_Few.l0 k a0 m (IntKind.i64.wrap ((IntKind.i64.wrap (x3_1 + (if 3000 < (((rd a0 x4_2).Prefix).length : Int) then 3000 else (((rd a0 x4_2).Prefix).length : Int)))) + (if 3000 < (((rd a0 x4_2).Space).length : Int) then 3000 else (((rd a0 x4_2).Space).length : Int)))) (IntKind.i64.wrap (x4_2 + 1)) else none) else none) else some (decide (x3_1 < 3000)))
def watchbilllaw02_Few (k : Nat) (a0 : List T_api_Bind) : Option Bool := watchbilllaw02_Few.l0 k a0 k (if 3000 < (a0.length : Int) then 3000 else (a0.length : Int)) 0
theorem watchbilllaw02_Few.ok {k : Nat} {a0 : List T_api_Bind} {r : Bool} (H : watchbilllaw02_Few k a0 = some r) : Vx.Fn Try.prog 12 [(L 2 e_api_Bind a0)] [] (.v (.bool r)) [] := by
  unfold watchbilllaw02_Few at H
  refine Vx.Fn.of_okR Try.func12 rfl (Nat.le_of_ble_eq_true rfl) ?_
  refine Ok.seq ?_
  refine Ok.region (σ' := ⟨[(0, (L 2 e_api_Bind a0))], []⟩) ?_ ?_
  · refine OpsOk.cons rfl (.v (VOk.asg (d := (.v (.bool false))) rfl rfl) rfl) ?_
    exact .done (.mk ⟨.same _, trivial⟩ trivial)
  refine Ok.seq ?_
  refine Ok.region (σ' := ⟨[(0, (L 2 e_api_Bind a0)), (3, (.v (.int .i64 (if 3000 < (a0.length : Int) then 3000 else (a0.length : Int)))))], []⟩) ?_ ?_
  · refine OpsOk.cons rfl (.v (VOk.mv (d := (L 2 e_api_Bind a0)) rfl rfl) rfl) ?_
    refine OpsOk.cons rfl (.v (VOk.lenL (e := e_api_Bind) (xs := a0) rfl Try.underlying26 rfl) rfl) ?_
    refine OpsOk.cons rfl (.v (VOk.min2 (a := (a0.length : Int)) (b := 3000) rfl rfl rfl) rfl) ?_
    refine OpsOk.cons rfl (.v (VOk.asg (d := (.v (.int .i64 (if 3000 < (a0.length : Int) then 3000 else (a0.length : Int))))) rfl rfl) rfl) ?_
    exact .done (.mk ⟨.same _, .same _, trivial⟩ trivial)
  refine Ok.seq ?_
  refine Ok.seq ?_
  refine Ok.region (σ' := ⟨[(0, (L 2 e_api_Bind a0)), (3, (.v (.int .i64 (if 3000 < (a0.length : Int) then 3000 else (a0.length : Int))))), (4, (.v (.int .i64 0)))], []⟩) ?_ ?_
  · refine OpsOk.cons rfl (.v (VOk.asg (d := (.v (.int .i64 0))) rfl rfl) rfl) ?_
    exact .done (.mk ⟨.same _, .same _, .same _, trivial⟩ trivial)
  refine Ok.block ?_
  refine Ok.le (σ' := ⟨[(0, (L 2 e_api_Bind a0)), (3, (.v (.int .i64 (if 3000 < (a0.length : Int) then 3000 else (a0.length : Int))))), (4, (.v (.int .i64 0)))], []⟩) (.mk ⟨.same _, .same _, .same _, trivial⟩ trivial) ?_
  refine Ok.loop (fun m σ => ∃ (x3_1 : Int) (x4_2 : Int), σ = ⟨[(0, (L 2 e_api_Bind a0)), (3, (.v (.int .i64 x3_1))), (4, (.v (.int .i64 x4_2)))], []⟩ ∧ watchbilllaw02_Few.l0 k a0 m x3_1 x4_2 = some r) k ⟨(if 3000 < (a0.length : Int) then 3000 else (a0.length : Int)), 0, rfl, H⟩ ?_
  rintro m σ ⟨x3_1, x4_2, rfl, H⟩
  cases m with
  | zero => exact absurd H (by simp [watchbilllaw02_Few.l0])
  | succ m =>
    unfold watchbilllaw02_Few.l0 at H
    refine Ok.seq ?_
    refine Ok.seq ?_
    refine Ok.region (σ' := ⟨[(0, (L 2 e_api_Bind a0)), (3, (.v (.int .i64 x3_1))), (4, (.v (.int .i64 x4_2))), (15, (.v (.bool ((decide (x4_2 < (a0.length : Int))) && (decide (x3_1 < 3000))))))], []⟩) ?_ ?_
    · refine OpsOk.cons rfl (.v (VOk.mv (d := (.v (.int .i64 x4_2))) rfl rfl) rfl) ?_
      refine OpsOk.cons rfl (.v (VOk.mv (d := (L 2 e_api_Bind a0)) rfl rfl) rfl) ?_
      refine OpsOk.cons rfl (.v (VOk.lenL (e := e_api_Bind) (xs := a0) rfl Try.underlying26 rfl) rfl) ?_
      refine OpsOk.cons rfl (.v (VOk.arith (op := .lss) (k := .i64) (a := x4_2) (b := (a0.length : Int)) rfl rfl rfl rfl) rfl) ?_
      refine OpsOk.cons rfl (.v (VOk.mv (d := (.v (.bool (decide (x4_2 < (a0.length : Int)))))) rfl rfl) rfl) ?_
      refine OpsOk.consI rfl rfl rfl (.one rfl) rfl (fun hw5 => (VOk.g (VOk.mv (d := (.v (.int .i64 x3_1))) rfl rfl))) ?_
      refine OpsOk.consI rfl rfl rfl (.one rfl) rfl (fun hw5 => (GOk.fr (fr' := [(13, (.v (.int .i64 x3_1)))]) ⟨DLe.of_eq (cT hw5).symm, trivial⟩ (VOk.g (VOk.arith (op := .lss) (k := .i64) (a := x3_1) (b := 3000) rfl rfl rfl rfl)))) ?_
      refine OpsOk.cons rfl (.v (VOk.to (VOk.pickI (b := (decide (x4_2 < (a0.length : Int)))) (p := (decide (x3_1 < 3000))) (q := false) rfl rfl (fun hp6 => (cT (t_beq hp6))) (fun hp6 => rfl)) (pickAnd (decide (x4_2 < (a0.length : Int))) (decide (x3_1 < 3000)))) rfl) ?_
      exact .done (.mk ⟨.same _, .same _, .same _, .same _, trivial⟩ trivial)
    refine Ok.test (b := ((decide (x4_2 < (a0.length : Int))) && (decide (x3_1 < 3000)))) rfl (fun hb9 => ?_) (fun hb9 => ?_)
    · replace H := ifT H hb9
      refine Ok.le (σ' := ⟨[(0, (L 2 e_api_Bind a0)), (3, (.v (.int .i64 x3_1))), (4, (.v (.int .i64 x4_2)))], []⟩) (.mk ⟨.same _, .same _, .same _, trivial⟩ trivial) ?_
      refine Ok.skip ?_
      refine Ok.seq ?_
      refine Ok.block ?_
      obtain ⟨c7, H⟩ := assertE H
      obtain ⟨c8, H⟩ := assertE H
      refine Ok.drawE (σ' := ⟨[(0, (L 2 e_api_Bind a0)), (3, (.v (.int .i64 (IntKind.i64.wrap ((IntKind.i64.wrap (x3_1 + (if 3000 < (((rd a0 x4_2).Prefix).length : Int) then 3000 else (((rd a0 x4_2).Prefix).length : Int)))) + (if 3000 < (((rd a0 x4_2).Space).length : Int) then 3000 else (((rd a0 x4_2).Space).length : Int))))))), (4, (.v (.int .i64 x4_2)))], []⟩) [⟨true, [(3, (.v (.int .i64 x3_1)))], (.v (.int .i64 x3_1))⟩, ⟨true, [(0, (L 2 e_api_Bind a0))], (L 2 e_api_Bind a0)⟩, ⟨true, [(4, (.v (.int .i64 x4_2)))], (.v (.int .i64 x4_2))⟩, ⟨true, [(19, (L 2 e_api_Bind a0)), (20, (.v (.int .i64 x4_2)))], (.fp (e_api_Bind (rd a0 x4_2)) 0)⟩, ⟨true, [(21, (.fp (e_api_Bind (rd a0 x4_2)) 0))], (.fp (e_api_Bind (rd a0 x4_2)) 0)⟩, ⟨true, [(22, (.fp (e_api_Bind (rd a0 x4_2)) 0))], (S ((rd a0 x4_2).Prefix))⟩, ⟨true, [(23, (S ((rd a0 x4_2).Prefix)))], (.v (.int .i64 (((rd a0 x4_2).Prefix).length : Int)))⟩, ⟨true, [(24, (.v (.int .i64 (((rd a0 x4_2).Prefix).length : Int))))], (.v (.int .i64 (if 3000 < (((rd a0 x4_2).Prefix).length : Int) then 3000 else (((rd a0 x4_2).Prefix).length : Int))))⟩, ⟨true, [(18, (.v (.int .i64 x3_1))), (25, (.v (.int .i64 (if 3000 < (((rd a0 x4_2).Prefix).length : Int) then 3000 else (((rd a0 x4_2).Prefix).length : Int)))))], (.v (.int .i64 (IntKind.i64.wrap (x3_1 + (if 3000 < (((rd a0 x4_2).Prefix).length : Int) then 3000 else (((rd a0 x4_2).Prefix).length : Int))))))⟩, ⟨true, [(0, (L 2 e_api_Bind a0))], (L 2 e_api_Bind a0)⟩, ⟨true, [(4, (.v (.int .i64 x4_2)))], (.v (.int .i64 x4_2))⟩, ⟨true, [(27, (L 2 e_api_Bind a0)), (28, (.v (.int .i64 x4_2)))], (.fp (e_api_Bind (rd a0 x4_2)) 0)⟩, ⟨true, [(29, (.fp (e_api_Bind (rd a0 x4_2)) 0))], (.fp (e_api_Bind (rd a0 x4_2)) 1)⟩, ⟨true, [(30, (.fp (e_api_Bind (rd a0 x4_2)) 1))], (S ((rd a0 x4_2).Space))⟩, ⟨true, [(31, (S ((rd a0 x4_2).Space)))], (.v (.int .i64 (((rd a0 x4_2).Space).length : Int)))⟩, ⟨true, [(32, (.v (.int .i64 (((rd a0 x4_2).Space).length : Int))))], (.v (.int .i64 (if 3000 < (((rd a0 x4_2).Space).length : Int) then 3000 else (((rd a0 x4_2).Space).length : Int))))⟩, ⟨true, [(26, (.v (.int .i64 (IntKind.i64.wrap (x3_1 + (if 3000 < (((rd a0 x4_2).Prefix).length : Int) then 3000 else (((rd a0 x4_2).Prefix).length : Int))))))), (33, (.v (.int .i64 (if 3000 < (((rd a0 x4_2).Space).length : Int) then 3000 else (((rd a0 x4_2).Space).length : Int)))))], (.v (.int .i64 (IntKind.i64.wrap ((IntKind.i64.wrap (x3_1 + (if 3000 < (((rd a0 x4_2).Prefix).length : Int) then 3000 else (((rd a0 x4_2).Prefix).length : Int)))) + (if 3000 < (((rd a0 x4_2).Space).length : Int) then 3000 else (((rd a0 x4_2).Space).length : Int))))))⟩, ⟨true, [(34, (.v (.int .i64 (IntKind.i64.wrap ((IntKind.i64.wrap (x3_1 + (if 3000 < (((rd a0 x4_2).Prefix).length : Int) then 3000 else (((rd a0 x4_2).Prefix).length : Int)))) + (if 3000 < (((rd a0 x4_2).Space).length : Int) then 3000 else (((rd a0 x4_2).Space).length : Int)))))))], (.v (.int .i64 (IntKind.i64.wrap ((IntKind.i64.wrap (x3_1 + (if 3000 < (((rd a0 x4_2).Prefix).length : Int) then 3000 else (((rd a0 x4_2).Prefix).length : Int)))) + (if 3000 < (((rd a0 x4_2).Space).length : Int) then 3000 else (((rd a0 x4_2).Space).length : Int))))))⟩] [[], [], [], [1, 2], [3], [4], [5], [6], [0, 7], [], [], [9, 10], [11], [12], [13], [14], [8, 15], [0, 16]] mixed (by kernel_rfl) ?_ ?_
      · refine TxtE.cons rfl ⟨.same _, trivial⟩ rfl (VOk.g (VOk.mv (d := (.v (.int .i64 x3_1))) rfl rfl)) ?_
        refine TxtE.cons rfl ⟨.same _, trivial⟩ rfl (VOk.g (VOk.mv (d := (L 2 e_api_Bind a0)) rfl rfl)) ?_
        refine TxtE.cons rfl ⟨.same _, trivial⟩ rfl (VOk.g (VOk.mv (d := (.v (.int .i64 x4_2))) rfl rfl)) ?_
        refine TxtE.cons rfl ⟨.same _, .same _, trivial⟩ rfl (VOk.g (VOk.indexL (sz := 2) (e := e_api_Bind) (xs := a0) (i := x4_2) rfl Try.underlying26 sz35 rfl rfl c7)) ?_
        refine TxtE.cons rfl ⟨.same _, trivial⟩ rfl (VOk.g (VOk.to (VOk.fieldFp rfl Try.underlying35 rfl sz9 rfl) rfl)) ?_
        refine TxtE.cons rfl ⟨.same _, trivial⟩ rfl (VOk.g (VOk.loadFp (d := (S ((rd a0 x4_2).Prefix))) rfl Try.underlying9 rfl rfl rfl)) ?_
        refine TxtE.cons rfl ⟨.same _, trivial⟩ rfl (VOk.g (VOk.lenStr (s := (rd a0 x4_2).Prefix) rfl Try.underlying9 rfl)) ?_
        refine TxtE.cons rfl ⟨.same _, trivial⟩ rfl (VOk.g (VOk.min2 (a := (((rd a0 x4_2).Prefix).length : Int)) (b := 3000) rfl rfl rfl)) ?_
        refine TxtE.cons rfl ⟨.same _, .same _, trivial⟩ rfl (VOk.g (VOk.arith (op := .add) (k := .i64) (a := x3_1) (b := (if 3000 < (((rd a0 x4_2).Prefix).length : Int) then 3000 else (((rd a0 x4_2).Prefix).length : Int))) rfl rfl rfl rfl)) ?_
        refine TxtE.cons rfl ⟨.same _, trivial⟩ rfl (VOk.g (VOk.mv (d := (L 2 e_api_Bind a0)) rfl rfl)) ?_
        refine TxtE.cons rfl ⟨.same _, trivial⟩ rfl (VOk.g (VOk.mv (d := (.v (.int .i64 x4_2))) rfl rfl)) ?_
        refine TxtE.cons rfl ⟨.same _, .same _, trivial⟩ rfl (VOk.g (VOk.indexL (sz := 2) (e := e_api_Bind) (xs := a0) (i := x4_2) rfl Try.underlying26 sz35 rfl rfl c8)) ?_
        refine TxtE.cons rfl ⟨.same _, trivial⟩ rfl (VOk.g (VOk.to (VOk.fieldFp rfl Try.underlying35 rfl sz9 rfl) rfl)) ?_
        refine TxtE.cons rfl ⟨.same _, trivial⟩ rfl (VOk.g (VOk.loadFp (d := (S ((rd a0 x4_2).Space))) rfl Try.underlying9 rfl rfl rfl)) ?_
        refine TxtE.cons rfl ⟨.same _, trivial⟩ rfl (VOk.g (VOk.lenStr (s := (rd a0 x4_2).Space) rfl Try.underlying9 rfl)) ?_
        refine TxtE.cons rfl ⟨.same _, trivial⟩ rfl (VOk.g (VOk.min2 (a := (((rd a0 x4_2).Space).length : Int)) (b := 3000) rfl rfl rfl)) ?_
        refine TxtE.cons rfl ⟨.same _, .same _, trivial⟩ rfl (VOk.g (VOk.arith (op := .add) (k := .i64) (a := (IntKind.i64.wrap (x3_1 + (if 3000 < (((rd a0 x4_2).Prefix).length : Int) then 3000 else (((rd a0 x4_2).Prefix).length : Int))))) (b := (if 3000 < (((rd a0 x4_2).Space).length : Int) then 3000 else (((rd a0 x4_2).Space).length : Int))) rfl rfl rfl rfl)) ?_
        refine TxtE.cons rfl ⟨.same _, trivial⟩ rfl (VOk.g (VOk.asg (d := (.v (.int .i64 (IntKind.i64.wrap ((IntKind.i64.wrap (x3_1 + (if 3000 < (((rd a0 x4_2).Prefix).length : Int) then 3000 else (((rd a0 x4_2).Prefix).length : Int)))) + (if 3000 < (((rd a0 x4_2).Space).length : Int) then 3000 else (((rd a0 x4_2).Space).length : Int))))))) rfl rfl)) ?_
        exact .done (.mk ⟨.same _, .same _, .same _, trivial⟩ trivial)
      refine Ok.region (σ' := ⟨[(0, (L 2 e_api_Bind a0)), (3, (.v (.int .i64 (IntKind.i64.wrap ((IntKind.i64.wrap (x3_1 + (if 3000 < (((rd a0 x4_2).Prefix).length : Int) then 3000 else (((rd a0 x4_2).Prefix).length : Int)))) + (if 3000 < (((rd a0 x4_2).Space).length : Int) then 3000 else (((rd a0 x4_2).Space).length : Int))))))), (4, (.v (.int .i64 (IntKind.i64.wrap (x4_2 + 1)))))], []⟩) ?_ ?_
      · refine OpsOk.cons rfl (.v (VOk.mv (d := (.v (.int .i64 x4_2))) rfl rfl) rfl) ?_
        refine OpsOk.cons rfl (.v (VOk.arith (op := .add) (k := .i64) (a := x4_2) (b := 1) rfl rfl rfl rfl) rfl) ?_
        refine OpsOk.cons rfl (.v (VOk.asg (d := (.v (.int .i64 (IntKind.i64.wrap (x4_2 + 1))))) rfl rfl) rfl) ?_
        exact .done (.mk ⟨.same _, .same _, .same _, trivial⟩ trivial)
      exact ⟨m, Nat.lt_succ_self m, (IntKind.i64.wrap ((IntKind.i64.wrap (x3_1 + (if 3000 < (((rd a0 x4_2).Prefix).length : Int) then 3000 else (((rd a0 x4_2).Prefix).length : Int)))) + (if 3000 < (((rd a0 x4_2).Space).length : Int) then 3000 else (((rd a0 x4_2).Space).length : Int)))), (IntKind.i64.wrap (x4_2 + 1)), rfl, H⟩
    · replace H := ifF H hb9
      refine Ok.le (σ' := ⟨[(3, (.v (.int .i64 x3_1)))], []⟩) (.mk ⟨.same _, trivial⟩ trivial) ?_
      refine Ok.exit ?_
      refine Ok.seq ?_
      refine Ok.region (σ' := ⟨[(2, (.v (.bool (decide (x3_1 < 3000)))))], []⟩) ?_ ?_
      · refine OpsOk.cons rfl (.v (VOk.mv (d := (.v (.int .i64 x3_1))) rfl rfl) rfl) ?_
        refine OpsOk.cons rfl (.v (VOk.arith (op := .lss) (k := .i64) (a := x3_1) (b := 3000) rfl rfl rfl rfl) rfl) ?_
        refine OpsOk.cons rfl (.v (VOk.asg (d := (.v (.bool (decide (x3_1 < 3000))))) rfl rfl) rfl) ?_
        exact .done (.mk ⟨.same _, trivial⟩ trivial)
      refine Ok.le (σ' := ⟨[(2, (.v (.bool (decide (x3_1 < 3000)))))], []⟩) (.mk ⟨.same _, trivial⟩ trivial) ?_
      refine Ok.ret ?_
      obtain rfl := Option.some.inj H
      exact ⟨.inl rfl, ⟨_, (.cons (.tmp rfl) .nil), rfl⟩, trivial⟩

/-! watchbill/watchbillref02.Find: function 17 -/
def watchbillref02_Find.l0 (k : Nat) (a0 : List T_api_Bind) (a1 : Str) : Nat → Str → Bool → Int → Option (Str × Bool)
  | 0, _, _, _ => none
  | m + 1, x6_1, x7_2, x8_3 => (if (decide (x8_3 < (a0.length : Int))) = true then (if (0 : Int) ≤ x8_3 ∧ x8_3 < (a0.length : Int) then (if (((rd a0 x8_3).Prefix) == a1) = true then (if (0 : Int) ≤ x8_3 ∧ x8_3 < (a0.length : Int) then watchbillref02_Find.l0 k a0 a1 m ((rd a0 x8_3).Space) true (IntKind.i64.wrap (x8_3 + 1)) else none) else watchbillref02_Find.l0 k a0 a1 m x6_1 x7_2 (IntKind.i64.wrap (x8_3 + 1))) else none) else some (x6_1, x7_2))
def watchbillref02_Find (k : Nat) (a0 : List T_api_Bind) (a1 : Str) : Option (Str × Bool) := (if (a1 == ([120, 109, 108] : Str)) = true then some (([104, 116, 116, 112, 58, 47, 47, 119, 119, 119, 46, 119, 51, 46, 111, 114, 103, 47, 88, 77, 76, 47, 49, 57, 57, 56, 47, 110, 97, 109, 101, 115, 112, 97, 99, 101] : Str), true) else watchbillref02_Find.l0 k a0 a1 k ([] : Str) (a1 == ([] : Str)) 0)
theorem watchbillref02_Find.ok {k : Nat} {a0 : List T_api_Bind} {a1 : Str} {r : Str × Bool} (H : watchbillref02_Find k a0 a1 = some r) : Vx.Fn Try.prog 17 [(L 2 e_api_Bind a0), (S a1)] [] (.tup [(S r.1), (.v (.bool r.2))]) [] := by
  unfold watchbillref02_Find at H
  refine Vx.Fn.of_okR Try.func17 rfl (Nat.le_of_ble_eq_true rfl) ?_
  refine Ok.seq ?_
  refine Ok.region (σ' := ⟨[(0, (L 2 e_api_Bind a0)), (1, (S a1))], []⟩) ?_ ?_
  · refine OpsOk.cons rfl (.v (VOk.asg (d := (S ([] : Str))) rfl rfl) rfl) ?_
    refine OpsOk.cons rfl (.v (VOk.asg (d := (.v (.bool false))) rfl rfl) rfl) ?_
    exact .done (.mk ⟨.same _, .same _, trivial⟩ trivial)
  refine Ok.seq ?_
  refine Ok.seq ?_
  refine Ok.region (σ' := ⟨[(0, (L 2 e_api_Bind a0)), (1, (S a1)), (10, (.v (.bool (a1 == ([120, 109, 108] : Str)))))], []⟩) ?_ ?_
  · refine OpsOk.cons rfl (.v (VOk.mv (d := (S a1)) rfl rfl) rfl) ?_
    refine OpsOk.cons rfl (.v (VOk.strOp (op := .eql) (a := a1) (b := ([120, 109, 108] : Str)) rfl rfl rfl rfl) rfl) ?_
    exact .done (.mk ⟨.same _, .same _, .same _, trivial⟩ trivial)
  refine Ok.test (b := (a1 == ([120, 109, 108] : Str))) rfl (fun hb11 => ?_) (fun hb11 => ?_)
  · replace H := ifT H hb11
    refine Ok.seq ?_
    refine Ok.region (σ' := ⟨[(4, (S ([104, 116, 116, 112, 58, 47, 47, 119, 119, 119, 46, 119, 51, 46, 111, 114, 103, 47, 88, 77, 76, 47, 49, 57, 57, 56, 47, 110, 97, 109, 101, 115, 112, 97, 99, 101] : Str))), (5, (.v (.bool true)))], []⟩) ?_ ?_
    · refine OpsOk.cons rfl (.v (VOk.asg (d := (S ([104, 116, 116, 112, 58, 47, 47, 119, 119, 119, 46, 119, 51, 46, 111, 114, 103, 47, 88, 77, 76, 47, 49, 57, 57, 56, 47, 110, 97, 109, 101, 115, 112, 97, 99, 101] : Str))) rfl rfl) rfl) ?_
      refine OpsOk.cons rfl (.v (VOk.asg (d := (.v (.bool true))) rfl rfl) rfl) ?_
      exact .done (.mk ⟨.same _, .same _, trivial⟩ trivial)
    refine Ok.le (σ' := ⟨[(4, (S ([104, 116, 116, 112, 58, 47, 47, 119, 119, 119, 46, 119, 51, 46, 111, 114, 103, 47, 88, 77, 76, 47, 49, 57, 57, 56, 47, 110, 97, 109, 101, 115, 112, 97, 99, 101] : Str))), (5, (.v (.bool true)))], []⟩) (.mk ⟨.same _, .same _, trivial⟩ trivial) ?_
    refine Ok.ret ?_
    obtain rfl := Option.some.inj H
    exact ⟨.inl rfl, ⟨_, (.cons (.tmp rfl) (.cons (.tmp rfl) .nil)), rfl⟩, trivial⟩
  · replace H := ifF H hb11
    refine Ok.le (σ' := ⟨[(0, (L 2 e_api_Bind a0)), (1, (S a1))], []⟩) (.mk ⟨.same _, .same _, trivial⟩ trivial) ?_
    refine Ok.skip ?_
    refine Ok.seq ?_
    refine Ok.region (σ' := ⟨[(0, (L 2 e_api_Bind a0)), (1, (S a1)), (6, (S ([] : Str)))], []⟩) ?_ ?_
    · refine OpsOk.cons rfl (.v (VOk.asg (d := (S ([] : Str))) rfl rfl) rfl) ?_
      exact .done (.mk ⟨.same _, .same _, .same _, trivial⟩ trivial)
    refine Ok.seq ?_
    refine Ok.region (σ' := ⟨[(0, (L 2 e_api_Bind a0)), (1, (S a1)), (6, (S ([] : Str))), (7, (.v (.bool (a1 == ([] : Str)))))], []⟩) ?_ ?_
    · refine OpsOk.cons rfl (.v (VOk.mv (d := (S a1)) rfl rfl) rfl) ?_
      refine OpsOk.cons rfl (.v (VOk.strOp (op := .eql) (a := a1) (b := ([] : Str)) rfl rfl rfl rfl) rfl) ?_
      refine OpsOk.cons rfl (.v (VOk.asg (d := (.v (.bool (a1 == ([] : Str))))) rfl rfl) rfl) ?_
      exact .done (.mk ⟨.same _, .same _, .same _, .same _, trivial⟩ trivial)
    refine Ok.seq ?_
    refine Ok.seq ?_
    refine Ok.region (σ' := ⟨[(0, (L 2 e_api_Bind a0)), (1, (S a1)), (6, (S ([] : Str))), (7, (.v (.bool (a1 == ([] : Str))))), (8, (.v (.int .i64 0)))], []⟩) ?_ ?_
    · refine OpsOk.cons rfl (.v (VOk.asg (d := (.v (.int .i64 0))) rfl rfl) rfl) ?_
      exact .done (.mk ⟨.same _, .same _, .same _, .same _, .same _, trivial⟩ trivial)
    refine Ok.block ?_
    refine Ok.le (σ' := ⟨[(0, (L 2 e_api_Bind a0)), (1, (S a1)), (6, (S ([] : Str))), (7, (.v (.bool (a1 == ([] : Str))))), (8, (.v (.int .i64 0)))], []⟩) (.mk ⟨.same _, .same _, .same _, .same _, .same _, trivial⟩ trivial) ?_
    refine Ok.loop (fun m σ => ∃ (x6_1 : Str) (x7_2 : Bool) (x8_3 : Int), σ = ⟨[(0, (L 2 e_api_Bind a0)), (1, (S a1)), (6, (S x6_1)), (7, (.v (.bool x7_2))), (8, (.v (.int .i64 x8_3)))], []⟩ ∧ watchbillref02_Find.l0 k a0 a1 m x6_1 x7_2 x8_3 = some r) k ⟨([] : Str), (a1 == ([] : Str)), 0, rfl, H⟩ ?_
    rintro m σ ⟨x6_1, x7_2, x8_3, rfl, H⟩
    cases m with
    | zero => exact absurd H (by simp [watchbillref02_Find.l0])
    | succ m =>
      unfold watchbillref02_Find.l0 at H
      refine Ok.seq ?_
      refine Ok.seq ?_
      refine Ok.region (σ' := ⟨[(0, (L 2 e_api_Bind a0)), (1, (S a1)), (6, (S x6_1)), (7, (.v (.bool x7_2))), (8, (.v (.int .i64 x8_3))), (16, (.v (.bool (decide (x8_3 < (a0.length : Int))))))], []⟩) ?_ ?_
      · refine OpsOk.cons rfl (.v (VOk.mv (d := (.v (.int .i64 x8_3))) rfl rfl) rfl) ?_
        refine OpsOk.cons rfl (.v (VOk.mv (d := (L 2 e_api_Bind a0)) rfl rfl) rfl) ?_
        refine OpsOk.cons rfl (.v (VOk.lenL (e := e_api_Bind) (xs := a0) rfl Try.underlying26 rfl) rfl) ?_
        refine OpsOk.cons rfl (.v (VOk.arith (op := .lss) (k := .i64) (a := x8_3) (b := (a0.length : Int)) rfl rfl rfl rfl) rfl) ?_
        exact .done (.mk ⟨.same _, .same _, .same _, .same _, .same _, .same _, trivial⟩ trivial)
      refine Ok.test (b := (decide (x8_3 < (a0.length : Int)))) rfl (fun hb10 => ?_) (fun hb10 => ?_)
      · replace H := ifT H hb10
        refine Ok.le (σ' := ⟨[(0, (L 2 e_api_Bind a0)), (1, (S a1)), (6, (S x6_1)), (7, (.v (.bool x7_2))), (8, (.v (.int .i64 x8_3)))], []⟩) (.mk ⟨.same _, .same _, .same _, .same _, .same _, trivial⟩ trivial) ?_
        refine Ok.skip ?_
        refine Ok.seq ?_
        refine Ok.block ?_
        refine Ok.seq ?_
        obtain ⟨c7, H⟩ := assertE H
        refine Ok.region (σ' := ⟨[(0, (L 2 e_api_Bind a0)), (1, (S a1)), (6, (S x6_1)), (7, (.v (.bool x7_2))), (8, (.v (.int .i64 x8_3))), (25, (.v (.bool (((rd a0 x8_3).Prefix) == a1))))], []⟩) ?_ ?_
        · refine OpsOk.cons rfl (.v (VOk.mv (d := (L 2 e_api_Bind a0)) rfl rfl) rfl) ?_
          refine OpsOk.cons rfl (.v (VOk.mv (d := (.v (.int .i64 x8_3))) rfl rfl) rfl) ?_
          refine OpsOk.cons rfl (.v (VOk.indexL (sz := 2) (e := e_api_Bind) (xs := a0) (i := x8_3) rfl Try.underlying26 sz35 rfl rfl c7) rfl) ?_
          refine OpsOk.cons rfl (.v (VOk.to (VOk.fieldFp rfl Try.underlying35 rfl sz9 rfl) rfl) rfl) ?_
          refine OpsOk.cons rfl (.v (VOk.loadFp (d := (S ((rd a0 x8_3).Prefix))) rfl Try.underlying9 rfl rfl rfl) rfl) ?_
          refine OpsOk.cons rfl (.v (VOk.mv (d := (S a1)) rfl rfl) rfl) ?_
          refine OpsOk.cons rfl (.v (VOk.strOp (op := .eql) (a := (rd a0 x8_3).Prefix) (b := a1) rfl rfl rfl rfl) rfl) ?_
          exact .done (.mk ⟨.same _, .same _, .same _, .same _, .same _, .same _, trivial⟩ trivial)
        refine Ok.test (b := (((rd a0 x8_3).Prefix) == a1)) rfl (fun hb9 => ?_) (fun hb9 => ?_)
        · replace H := ifT H hb9
          refine Ok.seq ?_
          obtain ⟨c8, H⟩ := assertE H
          refine Ok.region (σ' := ⟨[(0, (L 2 e_api_Bind a0)), (1, (S a1)), (6, (S ((rd a0 x8_3).Space))), (8, (.v (.int .i64 x8_3)))], []⟩) ?_ ?_
          · refine OpsOk.cons rfl (.v (VOk.mv (d := (L 2 e_api_Bind a0)) rfl rfl) rfl) ?_
            refine OpsOk.cons rfl (.v (VOk.mv (d := (.v (.int .i64 x8_3))) rfl rfl) rfl) ?_
            refine OpsOk.cons rfl (.v (VOk.indexL (sz := 2) (e := e_api_Bind) (xs := a0) (i := x8_3) rfl Try.underlying26 sz35 rfl rfl c8) rfl) ?_
            refine OpsOk.cons rfl (.v (VOk.to (VOk.fieldFp rfl Try.underlying35 rfl sz9 rfl) rfl) rfl) ?_
            refine OpsOk.cons rfl (.v (VOk.loadFp (d := (S ((rd a0 x8_3).Space))) rfl Try.underlying9 rfl rfl rfl) rfl) ?_
            refine OpsOk.cons rfl (.v (VOk.asg (d := (S ((rd a0 x8_3).Space))) rfl rfl) rfl) ?_
            exact .done (.mk ⟨.same _, .same _, .same _, .same _, trivial⟩ trivial)
          refine Ok.region (σ' := ⟨[(0, (L 2 e_api_Bind a0)), (1, (S a1)), (6, (S ((rd a0 x8_3).Space))), (7, (.v (.bool true))), (8, (.v (.int .i64 x8_3)))], []⟩) ?_ ?_
          · refine OpsOk.cons rfl (.v (VOk.asg (d := (.v (.bool true))) rfl rfl) rfl) ?_
            exact .done (.mk ⟨.same _, .same _, .same _, .same _, .same _, trivial⟩ trivial)
          refine Ok.region (σ' := ⟨[(0, (L 2 e_api_Bind a0)), (1, (S a1)), (6, (S ((rd a0 x8_3).Space))), (7, (.v (.bool true))), (8, (.v (.int .i64 (IntKind.i64.wrap (x8_3 + 1)))))], []⟩) ?_ ?_
          · refine OpsOk.cons rfl (.v (VOk.mv (d := (.v (.int .i64 x8_3))) rfl rfl) rfl) ?_
            refine OpsOk.cons rfl (.v (VOk.arith (op := .add) (k := .i64) (a := x8_3) (b := 1) rfl rfl rfl rfl) rfl) ?_
            refine OpsOk.cons rfl (.v (VOk.asg (d := (.v (.int .i64 (IntKind.i64.wrap (x8_3 + 1))))) rfl rfl) rfl) ?_
            exact .done (.mk ⟨.same _, .same _, .same _, .same _, .same _, trivial⟩ trivial)
          exact ⟨m, Nat.lt_succ_self m, ((rd a0 x8_3).Space), true, (IntKind.i64.wrap (x8_3 + 1)), rfl, H⟩
        · replace H := ifF H hb9
          refine Ok.le (σ' := ⟨[(0, (L 2 e_api_Bind a0)), (1, (S a1)), (6, (S x6_1)), (7, (.v (.bool x7_2))), (8, (.v (.int .i64 x8_3)))], []⟩) (.mk ⟨.same _, .same _, .same _, .same _, .same _, trivial⟩ trivial) ?_
          refine Ok.skip ?_
          refine Ok.region (σ' := ⟨[(0, (L 2 e_api_Bind a0)), (1, (S a1)), (6, (S x6_1)), (7, (.v (.bool x7_2))), (8, (.v (.int .i64 (IntKind.i64.wrap (x8_3 + 1)))))], []⟩) ?_ ?_
          · refine OpsOk.cons rfl (.v (VOk.mv (d := (.v (.int .i64 x8_3))) rfl rfl) rfl) ?_
            refine OpsOk.cons rfl (.v (VOk.arith (op := .add) (k := .i64) (a := x8_3) (b := 1) rfl rfl rfl rfl) rfl) ?_
            refine OpsOk.cons rfl (.v (VOk.asg (d := (.v (.int .i64 (IntKind.i64.wrap (x8_3 + 1))))) rfl rfl) rfl) ?_
            exact .done (.mk ⟨.same _, .same _, .same _, .same _, .same _, trivial⟩ trivial)
          exact ⟨m, Nat.lt_succ_self m, x6_1, x7_2, (IntKind.i64.wrap (x8_3 + 1)), rfl, H⟩
      · replace H := ifF H hb10
        refine Ok.le (σ' := ⟨[(6, (S x6_1)), (7, (.v (.bool x7_2)))], []⟩) (.mk ⟨.same _, .same _, trivial⟩ trivial) ?_
        refine Ok.exit ?_
        refine Ok.seq ?_
        refine Ok.region (σ' := ⟨[(4, (S x6_1)), (5, (.v (.bool x7_2)))], []⟩) ?_ ?_
        · refine OpsOk.cons rfl (.v (VOk.mv (d := (S x6_1)) rfl rfl) rfl) ?_
          refine OpsOk.cons rfl (.v (VOk.mv (d := (.v (.bool x7_2))) rfl rfl) rfl) ?_
          refine OpsOk.cons rfl (.v (VOk.asg (d := (S x6_1)) rfl rfl) rfl) ?_
          refine OpsOk.cons rfl (.v (VOk.asg (d := (.v (.bool x7_2))) rfl rfl) rfl) ?_
          exact .done (.mk ⟨.same _, .same _, trivial⟩ trivial)
        refine Ok.le (σ' := ⟨[(4, (S x6_1)), (5, (.v (.bool x7_2)))], []⟩) (.mk ⟨.same _, .same _, trivial⟩ trivial) ?_
        refine Ok.ret ?_
        obtain rfl := Option.some.inj H
        exact ⟨.inl rfl, ⟨_, (.cons (.tmp rfl) (.cons (.tmp rfl) .nil)), rfl⟩, trivial⟩

/-! watchbill/watchbillref02.Resolve: function 19 -/
def watchbillref02_Resolve (k : Nat) (a0 : List T_api_Bind) (a1 : Str) (a2 : Bool) : Option (T_api_Name × Int) := ((watchbillref02_Split k a1).bind fun (t1 : Str × Str × Bool) => (if (!t1.2.2) = true then some ((T_api_Name.mk ([] : Str) ([] : Str)), 12) else (if ((t1.1 == ([] : Str)) && a2) = true then some ((T_api_Name.mk ([] : Str) t1.2.1), 0) else ((watchbillref02_Find k a0 t1.1).bind fun (t5 : Str × Bool) => (if ((!t5.2) || (t1.1 == ([120, 109, 108, 110, 115] : Str))) = true then some ((T_api_Name.mk ([] : Str) ([] : Str)), 13) else some ((T_api_Name.mk t5.1 t1.2.1), 0))))))
theorem watchbillref02_Resolve.ok {k : Nat} {a0 : List T_api_Bind} {a1 : Str} {a2 : Bool} {r : T_api_Name × Int} (H : watchbillref02_Resolve k a0 a1 a2 = some r) : Vx.Fn Try.prog 19 [(L 2 e_api_Bind a0), (S a1), (.v (.bool a2))] [] (.tup [(.agg (e_api_Name r.1)), (.v (.int .i64 r.2))]) [] := by
  unfold watchbillref02_Resolve at H
  refine Vx.Fn.of_okR Try.func19 rfl (Nat.le_of_ble_eq_true rfl) ?_
  refine Ok.seq ?_
  refine Ok.region (σ' := ⟨[(0, (L 2 e_api_Bind a0)), (1, (S a1)), (2, (.v (.bool a2))), (6, (.bref 6 0))], [(6, (.box true [(S ([] : Str)), (S ([] : Str))]))]⟩) ?_ ?_
  · refine OpsOk.cons rfl (OpOk.alloc 6 [none, none] rfl zo40 rfl rfl) ?_
    refine OpsOk.cons rfl (.v (VOk.asg (d := (.v (.int .i64 0))) rfl rfl) rfl) ?_
    exact .done (.mk ⟨.same _, .same _, .same _, .same _, trivial⟩ ⟨.same _, trivial⟩)
  refine Ok.seq ?_
  obtain ⟨t1, h2, H⟩ := bindE H
  refine Ok.region (σ' := ⟨[(0, (L 2 e_api_Bind a0)), (2, (.v (.bool a2))), (6, (.bref 6 0)), (8, (S t1.1)), (9, (S t1.2.1)), (10, (.v (.bool t1.2.2)))], [(6, (.box true [(S ([] : Str)), (S ([] : Str))]))]⟩) ?_ ?_
  · refine OpsOk.cons rfl (.v (VOk.mv (d := (S a1)) rfl rfl) rfl) ?_
    refine OpsOk.cons rfl (.g (GOk.call rfl rfl cl11 rfl (watchbillref02_Split.ok h2) rfl) rfl) ?_
    refine OpsOk.cons rfl (.v (VOk.mv (d := (.tup [(S t1.1), (S t1.2.1), (.v (.bool t1.2.2))])) rfl rfl) rfl) ?_
    refine OpsOk.cons rfl (.v (VOk.extract (d := (S t1.1)) rfl rfl rfl) rfl) ?_
    refine OpsOk.cons rfl (.v (VOk.extract (d := (S t1.2.1)) rfl rfl rfl) rfl) ?_
    refine OpsOk.cons rfl (.v (VOk.extract (d := (.v (.bool t1.2.2))) rfl rfl rfl) rfl) ?_
    refine OpsOk.cons rfl (.v (VOk.asg (d := (S t1.1)) rfl rfl) rfl) ?_
    refine OpsOk.cons rfl (.v (VOk.asg (d := (S t1.2.1)) rfl rfl) rfl) ?_
    refine OpsOk.cons rfl (.v (VOk.asg (d := (.v (.bool t1.2.2))) rfl rfl) rfl) ?_
    exact .done (.mk ⟨.same _, .same _, .same _, .same _, .same _, .same _, trivial⟩ ⟨.same _, trivial⟩)
  refine Ok.seq ?_
  refine Ok.seq ?_
  refine Ok.region (σ' := ⟨[(0, (L 2 e_api_Bind a0)), (2, (.v (.bool a2))), (6, (.bref 6 0)), (8, (S t1.1)), (9, (S t1.2.1)), (20, (.v (.bool (!t1.2.2))))], [(6, (.box true [(S ([] : Str)), (S ([] : Str))]))]⟩) ?_ ?_
  · refine OpsOk.cons rfl (.v (VOk.mv (d := (.v (.bool t1.2.2))) rfl rfl) rfl) ?_
    refine OpsOk.cons rfl (.v (VOk.not (b := t1.2.2) rfl rfl) rfl) ?_
    exact .done (.mk ⟨.same _, .same _, .same _, .same _, .same _, .same _, trivial⟩ ⟨.same _, trivial⟩)
  refine Ok.test (b := (!t1.2.2)) rfl (fun hb11 => ?_) (fun hb11 => ?_)
  · replace H := ifT H hb11
    refine Ok.seq ?_
    refine Ok.region (σ' := ⟨[(6, (.bref 6 0)), (7, (.v (.int .i64 12)))], [(6, (.box true [(S ((T_api_Name.mk ([] : Str) ([] : Str)).Space)), (S ((T_api_Name.mk ([] : Str) ([] : Str)).Local))]))]⟩) ?_ ?_
    · refine OpsOk.cons rfl (.v (VOk.to (d' := (.agg (e_api_Name (T_api_Name.mk ([] : Str) ([] : Str))))) (.build [none, none] [(0, 1), (1, 1)] rfl Try.underlying40 (fa40 Try.underlying40) zo40 rfl rfl) rfl) rfl) ?_
      refine OpsOk.cons rfl (OpOk.to (σ2 := St.put ⟨_, (6, (.box true [(S ((T_api_Name.mk ([] : Str) ([] : Str)).Space)), (S ((T_api_Name.mk ([] : Str) ([] : Str)).Local))])) :: _⟩ _ .junk) (.storeB rfl sz40 rfl rfl rfl rfl rfl) rfl) ?_
      refine OpsOk.cons rfl (.v (VOk.asg (d := (.v (.int .i64 12))) rfl rfl) rfl) ?_
      exact .done (.mk ⟨.same _, .same _, trivial⟩ ⟨.same _, trivial⟩)
    refine Ok.le (σ' := ⟨[(6, (.bref 6 0)), (7, (.v (.int .i64 12)))], [(6, (.box true [(S ((T_api_Name.mk ([] : Str) ([] : Str)).Space)), (S ((T_api_Name.mk ([] : Str) ([] : Str)).Local))]))]⟩) (.mk ⟨.same _, .same _, trivial⟩ ⟨.same _, trivial⟩) ?_
    refine Ok.ret ?_
    obtain rfl := Option.some.inj H
    exact ⟨.inl rfl, ⟨_, (.cons (.cell (VOk.to (d' := (.agg (e_api_Name (T_api_Name.mk ([] : Str) ([] : Str))))) (.loadBAgg rfl Try.underlying40 rfl sz40 rfl rfl rfl) rfl)) (.cons (.tmp rfl) .nil)), rfl⟩, trivial⟩
  · replace H := ifF H hb11
    refine Ok.le (σ' := ⟨[(0, (L 2 e_api_Bind a0)), (2, (.v (.bool a2))), (6, (.bref 6 0)), (8, (S t1.1)), (9, (S t1.2.1))], [(6, (.box true [(S ([] : Str)), (S ([] : Str))]))]⟩) (.mk ⟨.same _, .same _, .same _, .same _, .same _, trivial⟩ ⟨.same _, trivial⟩) ?_
    refine Ok.skip ?_
    refine Ok.seq ?_
    refine Ok.seq ?_
    refine Ok.region (σ' := ⟨[(0, (L 2 e_api_Bind a0)), (6, (.bref 6 0)), (8, (S t1.1)), (9, (S t1.2.1)), (26, (.v (.bool ((t1.1 == ([] : Str)) && a2))))], [(6, (.box true [(S ([] : Str)), (S ([] : Str))]))]⟩) ?_ ?_
    · refine OpsOk.cons rfl (.v (VOk.mv (d := (S t1.1)) rfl rfl) rfl) ?_
      refine OpsOk.cons rfl (.v (VOk.strOp (op := .eql) (a := t1.1) (b := ([] : Str)) rfl rfl rfl rfl) rfl) ?_
      refine OpsOk.cons rfl (.v (VOk.mv (d := (.v (.bool (t1.1 == ([] : Str))))) rfl rfl) rfl) ?_
      refine OpsOk.consI rfl rfl rfl (.one rfl) rfl (fun hw3 => (VOk.g (VOk.mv (d := (.v (.bool a2))) rfl rfl))) ?_
      refine OpsOk.cons rfl (.v (VOk.to (VOk.pickI (b := (t1.1 == ([] : Str))) (p := a2) (q := false) rfl rfl (fun hp4 => (cT (t_beq hp4))) (fun hp4 => rfl)) (pickAnd (t1.1 == ([] : Str)) a2)) rfl) ?_
      exact .done (.mk ⟨.same _, .same _, .same _, .same _, .same _, trivial⟩ ⟨.same _, trivial⟩)
    refine Ok.test (b := ((t1.1 == ([] : Str)) && a2)) rfl (fun hb10 => ?_) (fun hb10 => ?_)
    · replace H := ifT H hb10
      refine Ok.seq ?_
      refine Ok.region (σ' := ⟨[(6, (.bref 6 0)), (7, (.v (.int .i64 0)))], [(6, (.box true [(S ((T_api_Name.mk ([] : Str) t1.2.1).Space)), (S ((T_api_Name.mk ([] : Str) t1.2.1).Local))]))]⟩) ?_ ?_
      · refine OpsOk.cons rfl (.v (VOk.mv (d := (S t1.2.1)) rfl rfl) rfl) ?_
        refine OpsOk.cons rfl (.v (VOk.to (d' := (.agg (e_api_Name (T_api_Name.mk ([] : Str) t1.2.1)))) (.build [none, none] [(0, 1), (1, 1)] rfl Try.underlying40 (fa40 Try.underlying40) zo40 rfl rfl) rfl) rfl) ?_
        refine OpsOk.cons rfl (OpOk.to (σ2 := St.put ⟨_, (6, (.box true [(S ((T_api_Name.mk ([] : Str) t1.2.1).Space)), (S ((T_api_Name.mk ([] : Str) t1.2.1).Local))])) :: _⟩ _ .junk) (.storeB rfl sz40 rfl rfl rfl rfl rfl) rfl) ?_
        refine OpsOk.cons rfl (.v (VOk.asg (d := (.v (.int .i64 0))) rfl rfl) rfl) ?_
        exact .done (.mk ⟨.same _, .same _, trivial⟩ ⟨.same _, trivial⟩)
      refine Ok.le (σ' := ⟨[(6, (.bref 6 0)), (7, (.v (.int .i64 0)))], [(6, (.box true [(S ((T_api_Name.mk ([] : Str) t1.2.1).Space)), (S ((T_api_Name.mk ([] : Str) t1.2.1).Local))]))]⟩) (.mk ⟨.same _, .same _, trivial⟩ ⟨.same _, trivial⟩) ?_
      refine Ok.ret ?_
      obtain rfl := Option.some.inj H
      exact ⟨.inl rfl, ⟨_, (.cons (.cell (VOk.to (d' := (.agg (e_api_Name (T_api_Name.mk ([] : Str) t1.2.1)))) (.loadBAgg rfl Try.underlying40 rfl sz40 rfl rfl rfl) rfl)) (.cons (.tmp rfl) .nil)), rfl⟩, trivial⟩
    · replace H := ifF H hb10
      refine Ok.le (σ' := ⟨[(0, (L 2 e_api_Bind a0)), (6, (.bref 6 0)), (8, (S t1.1)), (9, (S t1.2.1))], [(6, (.box true [(S ([] : Str)), (S ([] : Str))]))]⟩) (.mk ⟨.same _, .same _, .same _, .same _, trivial⟩ ⟨.same _, trivial⟩) ?_
      refine Ok.skip ?_
      refine Ok.seq ?_
      obtain ⟨t5, h6, H⟩ := bindE H
      refine Ok.region (σ' := ⟨[(6, (.bref 6 0)), (8, (S t1.1)), (9, (S t1.2.1)), (11, (S t5.1)), (12, (.v (.bool t5.2)))], [(6, (.box true [(S ([] : Str)), (S ([] : Str))]))]⟩) ?_ ?_
      · refine OpsOk.cons rfl (.v (VOk.mv (d := (L 2 e_api_Bind a0)) rfl rfl) rfl) ?_
        refine OpsOk.cons rfl (.v (VOk.mv (d := (S t1.1)) rfl rfl) rfl) ?_
        refine OpsOk.cons rfl (.g (GOk.call rfl rfl cl17 rfl (watchbillref02_Find.ok h6) rfl) rfl) ?_
        refine OpsOk.cons rfl (.v (VOk.mv (d := (.tup [(S t5.1), (.v (.bool t5.2))])) rfl rfl) rfl) ?_
        refine OpsOk.cons rfl (.v (VOk.extract (d := (S t5.1)) rfl rfl rfl) rfl) ?_
        refine OpsOk.cons rfl (.v (VOk.extract (d := (.v (.bool t5.2))) rfl rfl rfl) rfl) ?_
        refine OpsOk.cons rfl (.v (VOk.asg (d := (S t5.1)) rfl rfl) rfl) ?_
        refine OpsOk.cons rfl (.v (VOk.asg (d := (.v (.bool t5.2))) rfl rfl) rfl) ?_
        exact .done (.mk ⟨.same _, .same _, .same _, .same _, .same _, trivial⟩ ⟨.same _, trivial⟩)
      refine Ok.seq ?_
      refine Ok.seq ?_
      refine Ok.region (σ' := ⟨[(6, (.bref 6 0)), (9, (S t1.2.1)), (11, (S t5.1)), (40, (.v (.bool ((!t5.2) || (t1.1 == ([120, 109, 108, 110, 115] : Str))))))], [(6, (.box true [(S ([] : Str)), (S ([] : Str))]))]⟩) ?_ ?_
      · refine OpsOk.cons rfl (.v (VOk.mv (d := (.v (.bool t5.2))) rfl rfl) rfl) ?_
        refine OpsOk.cons rfl (.v (VOk.not (b := t5.2) rfl rfl) rfl) ?_
        refine OpsOk.cons rfl (.v (VOk.mv (d := (.v (.bool (!t5.2)))) rfl rfl) rfl) ?_
        refine OpsOk.consI rfl rfl rfl (.one rfl) rfl (fun hw7 => (VOk.g (VOk.mv (d := (S t1.1)) rfl rfl))) ?_
        refine OpsOk.consI rfl rfl rfl (.one rfl) rfl (fun hw7 => (GOk.fr (fr' := [(38, (S t1.1))]) ⟨DLe.of_eq (cT hw7).symm, trivial⟩ (VOk.g (VOk.strOp (op := .eql) (a := t1.1) (b := ([120, 109, 108, 110, 115] : Str)) rfl rfl rfl rfl)))) ?_
        refine OpsOk.cons rfl (.v (VOk.to (VOk.pickI (b := (!t5.2)) (p := true) (q := (t1.1 == ([120, 109, 108, 110, 115] : Str))) rfl rfl (fun hp8 => rfl) (fun hp8 => (cT (f_beq hp8)))) (pickOr (!t5.2) (t1.1 == ([120, 109, 108, 110, 115] : Str)))) rfl) ?_
        exact .done (.mk ⟨.same _, .same _, .same _, .same _, trivial⟩ ⟨.same _, trivial⟩)
      refine Ok.test (b := ((!t5.2) || (t1.1 == ([120, 109, 108, 110, 115] : Str)))) rfl (fun hb9 => ?_) (fun hb9 => ?_)
      · replace H := ifT H hb9
        refine Ok.seq ?_
        refine Ok.region (σ' := ⟨[(6, (.bref 6 0)), (7, (.v (.int .i64 13)))], [(6, (.box true [(S ((T_api_Name.mk ([] : Str) ([] : Str)).Space)), (S ((T_api_Name.mk ([] : Str) ([] : Str)).Local))]))]⟩) ?_ ?_
        · refine OpsOk.cons rfl (.v (VOk.to (d' := (.agg (e_api_Name (T_api_Name.mk ([] : Str) ([] : Str))))) (.build [none, none] [(0, 1), (1, 1)] rfl Try.underlying40 (fa40 Try.underlying40) zo40 rfl rfl) rfl) rfl) ?_
          refine OpsOk.cons rfl (OpOk.to (σ2 := St.put ⟨_, (6, (.box true [(S ((T_api_Name.mk ([] : Str) ([] : Str)).Space)), (S ((T_api_Name.mk ([] : Str) ([] : Str)).Local))])) :: _⟩ _ .junk) (.storeB rfl sz40 rfl rfl rfl rfl rfl) rfl) ?_
          refine OpsOk.cons rfl (.v (VOk.asg (d := (.v (.int .i64 13))) rfl rfl) rfl) ?_
          exact .done (.mk ⟨.same _, .same _, trivial⟩ ⟨.same _, trivial⟩)
        refine Ok.le (σ' := ⟨[(6, (.bref 6 0)), (7, (.v (.int .i64 13)))], [(6, (.box true [(S ((T_api_Name.mk ([] : Str) ([] : Str)).Space)), (S ((T_api_Name.mk ([] : Str) ([] : Str)).Local))]))]⟩) (.mk ⟨.same _, .same _, trivial⟩ ⟨.same _, trivial⟩) ?_
        refine Ok.ret ?_
        obtain rfl := Option.some.inj H
        exact ⟨.inl rfl, ⟨_, (.cons (.cell (VOk.to (d' := (.agg (e_api_Name (T_api_Name.mk ([] : Str) ([] : Str))))) (.loadBAgg rfl Try.underlying40 rfl sz40 rfl rfl rfl) rfl)) (.cons (.tmp rfl) .nil)), rfl⟩, trivial⟩
      · replace H := ifF H hb9
        refine Ok.le (σ' := ⟨[(6, (.bref 6 0)), (9, (S t1.2.1)), (11, (S t5.1))], [(6, (.box true [(S ([] : Str)), (S ([] : Str))]))]⟩) (.mk ⟨.same _, .same _, .same _, trivial⟩ ⟨.same _, trivial⟩) ?_
        refine Ok.skip ?_
        refine Ok.seq ?_
        refine Ok.region (σ' := ⟨[(6, (.bref 6 0)), (7, (.v (.int .i64 0)))], [(6, (.box true [(S ((T_api_Name.mk t5.1 t1.2.1).Space)), (S ((T_api_Name.mk t5.1 t1.2.1).Local))]))]⟩) ?_ ?_
        · refine OpsOk.cons rfl (.v (VOk.mv (d := (S t5.1)) rfl rfl) rfl) ?_
          refine OpsOk.cons rfl (.v (VOk.mv (d := (S t1.2.1)) rfl rfl) rfl) ?_
          refine OpsOk.cons rfl (.v (VOk.to (d' := (.agg (e_api_Name (T_api_Name.mk t5.1 t1.2.1)))) (.build [none, none] [(0, 1), (1, 1)] rfl Try.underlying40 (fa40 Try.underlying40) zo40 rfl rfl) rfl) rfl) ?_
          refine OpsOk.cons rfl (OpOk.to (σ2 := St.put ⟨_, (6, (.box true [(S ((T_api_Name.mk t5.1 t1.2.1).Space)), (S ((T_api_Name.mk t5.1 t1.2.1).Local))])) :: _⟩ _ .junk) (.storeB rfl sz40 rfl rfl rfl rfl rfl) rfl) ?_
          refine OpsOk.cons rfl (.v (VOk.asg (d := (.v (.int .i64 0))) rfl rfl) rfl) ?_
          exact .done (.mk ⟨.same _, .same _, trivial⟩ ⟨.same _, trivial⟩)
        refine Ok.le (σ' := ⟨[(6, (.bref 6 0)), (7, (.v (.int .i64 0)))], [(6, (.box true [(S ((T_api_Name.mk t5.1 t1.2.1).Space)), (S ((T_api_Name.mk t5.1 t1.2.1).Local))]))]⟩) (.mk ⟨.same _, .same _, trivial⟩ ⟨.same _, trivial⟩) ?_
        refine Ok.ret ?_
        obtain rfl := Option.some.inj H
        exact ⟨.inl rfl, ⟨_, (.cons (.cell (VOk.to (d' := (.agg (e_api_Name (T_api_Name.mk t5.1 t1.2.1)))) (.loadBAgg rfl Try.underlying40 rfl sz40 rfl rfl rfl) rfl)) (.cons (.tmp rfl) .nil)), rfl⟩, trivial⟩

/-! watchbill/watchbilllaw02.QnameResolves: function 5 -/
def watchbilllaw02_QnameResolves (k : Nat) (a0 : List T_api_Bind) (a1 : Str) (a2 : Bool) : Option Bool := ((watchbilllaw02_awake k).bind fun (t1 : Bool) => (if (!t1) = true then some false else ((watchbilllaw02_Few k a0).bind fun (t3 : Bool) => (if ((!t3) || (decide ((a1.length : Int) > 3000))) = true then some true else ((qname_Resolve k a0 a1 a2).bind fun (t7 : T_api_Name × Int) => ((watchbillref02_Resolve k a0 a1 a2).bind fun (t9 : T_api_Name × Int) => some ((t7.1.Space == t9.1.Space && (t7.1.Local == t9.1.Local && true)) && (t7.2 == t9.2))))))))
theorem watchbilllaw02_QnameResolves.ok {k : Nat} {a0 : List T_api_Bind} {a1 : Str} {a2 : Bool} {r : Bool} (H : watchbilllaw02_QnameResolves k a0 a1 a2 = some r) : Vx.Fn Try.prog 5 [(L 2 e_api_Bind a0), (S a1), (.v (.bool a2))] [] (.v (.bool r)) [] := by
  unfold watchbilllaw02_QnameResolves at H
  refine Vx.Fn.of_okR Try.func5 rfl (Nat.le_of_ble_eq_true rfl) ?_
  refine Ok.seq ?_
  refine Ok.region (σ' := ⟨[(0, (L 2 e_api_Bind a0)), (1, (S a1)), (2, (.v (.bool a2)))], []⟩) ?_ ?_
  · refine OpsOk.cons rfl (.v (VOk.asg (d := (.v (.bool false))) rfl rfl) rfl) ?_
    exact .done (.mk ⟨.same _, .same _, .same _, trivial⟩ trivial)
  refine Ok.seq ?_
  refine Ok.seq ?_
  obtain ⟨t1, h2, H⟩ := bindE H
  refine Ok.region (σ' := ⟨[(0, (L 2 e_api_Bind a0)), (1, (S a1)), (2, (.v (.bool a2))), (12, (.v (.bool (!t1))))], []⟩) ?_ ?_
  · refine OpsOk.cons rfl (.g (GOk.call rfl rfl cl9 rfl (watchbilllaw02_awake.ok h2) rfl) rfl) ?_
    refine OpsOk.cons rfl (.v (VOk.not (b := t1) rfl rfl) rfl) ?_
    exact .done (.mk ⟨.same _, .same _, .same _, .same _, trivial⟩ trivial)
  refine Ok.test (b := (!t1)) rfl (fun hb14 => ?_) (fun hb14 => ?_)
  · replace H := ifT H hb14
    refine Ok.seq ?_
    refine Ok.region (σ' := ⟨[(6, (.v (.bool false)))], []⟩) ?_ ?_
    · refine OpsOk.cons rfl (.v (VOk.asg (d := (.v (.bool false))) rfl rfl) rfl) ?_
      exact .done (.mk ⟨.same _, trivial⟩ trivial)
    refine Ok.le (σ' := ⟨[(6, (.v (.bool false)))], []⟩) (.mk ⟨.same _, trivial⟩ trivial) ?_
    refine Ok.ret ?_
    obtain rfl := Option.some.inj H
    exact ⟨.inl rfl, ⟨_, (.cons (.tmp rfl) .nil), rfl⟩, trivial⟩
  · replace H := ifF H hb14
    refine Ok.le (σ' := ⟨[(0, (L 2 e_api_Bind a0)), (1, (S a1)), (2, (.v (.bool a2)))], []⟩) (.mk ⟨.same _, .same _, .same _, trivial⟩ trivial) ?_
    refine Ok.skip ?_
    refine Ok.seq ?_
    refine Ok.seq ?_
    obtain ⟨t3, h4, H⟩ := bindE H
    refine Ok.region (σ' := ⟨[(0, (L 2 e_api_Bind a0)), (1, (S a1)), (2, (.v (.bool a2))), (20, (.v (.bool ((!t3) || (decide ((a1.length : Int) > 3000))))))], []⟩) ?_ ?_
    · refine OpsOk.cons rfl (.v (VOk.mv (d := (L 2 e_api_Bind a0)) rfl rfl) rfl) ?_
      refine OpsOk.cons rfl (.g (GOk.call rfl rfl cl12 rfl (watchbilllaw02_Few.ok h4) rfl) rfl) ?_
      refine OpsOk.cons rfl (.v (VOk.not (b := t3) rfl rfl) rfl) ?_
      refine OpsOk.cons rfl (.v (VOk.mv (d := (.v (.bool (!t3)))) rfl rfl) rfl) ?_
      refine OpsOk.consI rfl rfl rfl (.one rfl) rfl (fun hw5 => (VOk.g (VOk.mv (d := (S a1)) rfl rfl))) ?_
      refine OpsOk.consI rfl rfl rfl (.one rfl) rfl (fun hw5 => (GOk.fr (fr' := [(17, (S a1))]) ⟨DLe.of_eq (cT hw5).symm, trivial⟩ (VOk.g (VOk.lenStr (s := a1) rfl Try.underlying9 rfl)))) ?_
      refine OpsOk.consI rfl rfl rfl (.one rfl) rfl (fun hw5 => (GOk.fr (fr' := [(18, (.v (.int .i64 (a1.length : Int))))]) ⟨DLe.of_eq (cT hw5).symm, trivial⟩ (VOk.g (VOk.arith (op := .gtr) (k := .i64) (a := (a1.length : Int)) (b := 3000) rfl rfl rfl rfl)))) ?_
      refine OpsOk.cons rfl (.v (VOk.to (VOk.pickI (b := (!t3)) (p := true) (q := (decide ((a1.length : Int) > 3000))) rfl rfl (fun hp6 => rfl) (fun hp6 => (cT (f_beq hp6)))) (pickOr (!t3) (decide ((a1.length : Int) > 3000)))) rfl) ?_
      exact .done (.mk ⟨.same _, .same _, .same _, .same _, trivial⟩ trivial)
    refine Ok.test (b := ((!t3) || (decide ((a1.length : Int) > 3000)))) rfl (fun hb13 => ?_) (fun hb13 => ?_)
    · replace H := ifT H hb13
      refine Ok.seq ?_
      refine Ok.region (σ' := ⟨[(6, (.v (.bool true)))], []⟩) ?_ ?_
      · refine OpsOk.cons rfl (.v (VOk.asg (d := (.v (.bool true))) rfl rfl) rfl) ?_
        exact .done (.mk ⟨.same _, trivial⟩ trivial)
      refine Ok.le (σ' := ⟨[(6, (.v (.bool true)))], []⟩) (.mk ⟨.same _, trivial⟩ trivial) ?_
      refine Ok.ret ?_
      obtain rfl := Option.some.inj H
      exact ⟨.inl rfl, ⟨_, (.cons (.tmp rfl) .nil), rfl⟩, trivial⟩
    · replace H := ifF H hb13
      refine Ok.le (σ' := ⟨[(0, (L 2 e_api_Bind a0)), (1, (S a1)), (2, (.v (.bool a2)))], []⟩) (.mk ⟨.same _, .same _, .same _, trivial⟩ trivial) ?_
      refine Ok.skip ?_
      refine Ok.seq ?_
      obtain ⟨t7, h8, H⟩ := bindE H
      refine Ok.region (σ' := ⟨[(0, (L 2 e_api_Bind a0)), (1, (S a1)), (2, (.v (.bool a2))), (7, (.bref 7 0)), (8, (.v (.int .i64 t7.2)))], [(7, (.box true [(S t7.1.Space), (S t7.1.Local)]))]⟩) ?_ ?_
      · refine OpsOk.cons rfl (.v (VOk.mv (d := (L 2 e_api_Bind a0)) rfl rfl) rfl) ?_
        refine OpsOk.cons rfl (.v (VOk.mv (d := (S a1)) rfl rfl) rfl) ?_
        refine OpsOk.cons rfl (.v (VOk.mv (d := (.v (.bool a2))) rfl rfl) rfl) ?_
        refine OpsOk.cons rfl (.g (GOk.call rfl rfl cl18 rfl (qname_Resolve.ok h8) rfl) rfl) ?_
        refine OpsOk.cons rfl (.v (VOk.mv (d := (.tup [(.agg (e_api_Name t7.1)), (.v (.int .i64 t7.2))])) rfl rfl) rfl) ?_
        refine OpsOk.cons rfl (.v (VOk.extract (d := (.agg (e_api_Name t7.1))) rfl rfl rfl) rfl) ?_
        refine OpsOk.cons rfl (.v (VOk.extract (d := (.v (.int .i64 t7.2))) rfl rfl rfl) rfl) ?_
        refine OpsOk.cons rfl (OpOk.alloc 7 [none, none] rfl zo40 rfl rfl) ?_
        refine OpsOk.cons rfl (OpOk.to (σ2 := St.put ⟨_, (7, (.box true [(S t7.1.Space), (S t7.1.Local)])) :: _⟩ _ .junk) (.storeB rfl sz40 rfl rfl rfl rfl rfl) rfl) ?_
        refine OpsOk.cons rfl (.v (VOk.asg (d := (.v (.int .i64 t7.2))) rfl rfl) rfl) ?_
        exact .done (.mk ⟨.same _, .same _, .same _, .same _, .same _, trivial⟩ ⟨.same _, trivial⟩)
      refine Ok.seq ?_
      obtain ⟨t9, h10, H⟩ := bindE H
      refine Ok.region (σ' := ⟨[(7, (.bref 7 0)), (8, (.v (.int .i64 t7.2))), (9, (.bref 9 0)), (10, (.v (.int .i64 t9.2)))], [(7, (.box true [(S t7.1.Space), (S t7.1.Local)])), (9, (.box true [(S t9.1.Space), (S t9.1.Local)]))]⟩) ?_ ?_
      · refine OpsOk.cons rfl (.v (VOk.mv (d := (L 2 e_api_Bind a0)) rfl rfl) rfl) ?_
        refine OpsOk.cons rfl (.v (VOk.mv (d := (S a1)) rfl rfl) rfl) ?_
        refine OpsOk.cons rfl (.v (VOk.mv (d := (.v (.bool a2))) rfl rfl) rfl) ?_
        refine OpsOk.cons rfl (.g (GOk.call rfl rfl cl19 rfl (watchbillref02_Resolve.ok h10) rfl) rfl) ?_
        refine OpsOk.cons rfl (.v (VOk.mv (d := (.tup [(.agg (e_api_Name t9.1)), (.v (.int .i64 t9.2))])) rfl rfl) rfl) ?_
        refine OpsOk.cons rfl (.v (VOk.extract (d := (.agg (e_api_Name t9.1))) rfl rfl rfl) rfl) ?_
        refine OpsOk.cons rfl (.v (VOk.extract (d := (.v (.int .i64 t9.2))) rfl rfl rfl) rfl) ?_
        refine OpsOk.cons rfl (OpOk.alloc 9 [none, none] rfl zo40 rfl rfl) ?_
        refine OpsOk.cons rfl (OpOk.to (σ2 := St.put ⟨_, (9, (.box true [(S t9.1.Space), (S t9.1.Local)])) :: _⟩ _ .junk) (.storeB rfl sz40 rfl rfl rfl rfl rfl) rfl) ?_
        refine OpsOk.cons rfl (.v (VOk.asg (d := (.v (.int .i64 t9.2))) rfl rfl) rfl) ?_
        exact .done (.mk ⟨.same _, .same _, .same _, .same _, trivial⟩ ⟨.same _, .same _, trivial⟩)
      refine Ok.seq ?_
      refine Ok.region (σ' := ⟨[(6, (.v (.bool ((t7.1.Space == t9.1.Space && (t7.1.Local == t9.1.Local && true)) && (t7.2 == t9.2)))))], []⟩) ?_ ?_
      · refine OpsOk.cons rfl (.v (VOk.to (d' := (.agg (e_api_Name t7.1))) (.loadBAgg rfl Try.underlying40 rfl sz40 rfl rfl rfl) rfl) rfl) ?_
        refine OpsOk.cons rfl (.v (VOk.to (d' := (.agg (e_api_Name t9.1))) (.loadBAgg rfl Try.underlying40 rfl sz40 rfl rfl rfl) rfl) rfl) ?_
        refine OpsOk.cons rfl (.v (VOk.eqS' (op := .eql) (d := (.v (.bool (t7.1.Space == t9.1.Space && (t7.1.Local == t9.1.Local && true))))) rfl (.inl rfl) (eqt40 9998) ag40 eg40 rfl rfl rfl rfl) rfl) ?_
        refine OpsOk.cons rfl (.v (VOk.mv (d := (.v (.bool (t7.1.Space == t9.1.Space && (t7.1.Local == t9.1.Local && true))))) rfl rfl) rfl) ?_
        refine OpsOk.consI rfl rfl rfl (.one rfl) rfl (fun hw11 => (VOk.g (VOk.mv (d := (.v (.int .i64 t7.2))) rfl rfl))) ?_
        refine OpsOk.consI rfl rfl rfl (.one rfl) rfl (fun hw11 => (VOk.g (VOk.mv (d := (.v (.int .i64 t9.2))) rfl rfl))) ?_
        refine OpsOk.consI rfl rfl rfl (.one rfl) rfl (fun hw11 => (GOk.fr (fr' := [(39, (.v (.int .i64 t7.2))), (40, (.v (.int .i64 t9.2)))]) ⟨DLe.of_eq (cT hw11).symm, DLe.of_eq (cT hw11).symm, trivial⟩ (VOk.g (VOk.arith (op := .eql) (k := .i64) (a := t7.2) (b := t9.2) rfl rfl rfl rfl)))) ?_
        refine OpsOk.cons rfl (.v (VOk.to (VOk.pickI (b := (t7.1.Space == t9.1.Space && (t7.1.Local == t9.1.Local && true))) (p := (t7.2 == t9.2)) (q := false) rfl rfl (fun hp12 => (cT (t_beq hp12))) (fun hp12 => rfl)) (pickAnd (t7.1.Space == t9.1.Space && (t7.1.Local == t9.1.Local && true)) (t7.2 == t9.2))) rfl) ?_
        refine OpsOk.cons rfl (.v (VOk.asg (d := (.v (.bool ((t7.1.Space == t9.1.Space && (t7.1.Local == t9.1.Local && true)) && (t7.2 == t9.2))))) rfl rfl) rfl) ?_
        exact .done (.mk ⟨.same _, trivial⟩ trivial)
      refine Ok.le (σ' := ⟨[(6, (.v (.bool ((t7.1.Space == t9.1.Space && (t7.1.Local == t9.1.Local && true)) && (t7.2 == t9.2)))))], []⟩) (.mk ⟨.same _, trivial⟩ trivial) ?_
      refine Ok.ret ?_
      obtain rfl := Option.some.inj H
      exact ⟨.inl rfl, ⟨_, (.cons (.tmp rfl) .nil), rfl⟩, trivial⟩

/-! watchbill/watchbilllaw02.QnameInner: function 6 -/
def watchbilllaw02_QnameInner (k : Nat) (a0 : List T_api_Bind) (a1 : Str) (a2 : Str) (a3 : Str) : Option Bool := ((watchbilllaw02_awake k).bind fun (t1 : Bool) => (if (!t1) = true then some false else ((watchbilllaw02_Few k a0).bind fun (t3 : Bool) => (if ((((!t3) || (decide ((a1.length : Int) > 3000))) || (decide ((a2.length : Int) > 3000))) || (decide ((a3.length : Int) > 3000))) = true then some true else ((qname_Add k a0 a1 a2).bind fun (t11 : (List T_api_Bind) × Int) => (if (t11.2 != 0) = true then some ((t11.1.length : Int) == 0) else ((qname_Find k t11.1 a1).bind fun (t13 : Str × Bool) => (if (((!(t13.1 == a2)) || (!t13.2)) || ((t11.1.length : Int) != (IntKind.i64.wrap ((a0.length : Int) + 1)))) = true then some false else ((qname_Split k a3).bind fun (t19 : Str × Str × Bool) => (if ((!t19.2.2) || (t19.1 == a1)) = true then some true else ((qname_Resolve k a0 a3 false).bind fun (t23 : T_api_Name × Int) => ((qname_Resolve k t11.1 a3 false).bind fun (t25 : T_api_Name × Int) => some ((t23.1.Space == t25.1.Space && (t23.1.Local == t25.1.Local && true)) && (t23.2 == t25.2))))))))))))))
theorem watchbilllaw02_QnameInner.ok {k : Nat} {a0 : List T_api_Bind} {a1 : Str} {a2 : Str} {a3 : Str} {r : Bool} (H : watchbilllaw02_QnameInner k a0 a1 a2 a3 = some r) : Vx.Fn Try.prog 6 [(L 2 e_api_Bind a0), (S a1), (S a2), (S a3)] [] (.v (.bool r)) [] := by
  unfold watchbilllaw02_QnameInner at H
  refine Vx.Fn.of_okR Try.func6 rfl (Nat.le_of_ble_eq_true rfl) ?_
  refine Ok.seq ?_
  refine Ok.region (σ' := ⟨[(0, (L 2 e_api_Bind a0)), (1, (S a1)), (2, (S a2)), (3, (S a3))], []⟩) ?_ ?_
  · refine OpsOk.cons rfl (.v (VOk.asg (d := (.v (.bool false))) rfl rfl) rfl) ?_
    exact .done (.mk ⟨.same _, .same _, .same _, .same _, trivial⟩ trivial)
  refine Ok.seq ?_
  refine Ok.seq ?_
  obtain ⟨t1, h2, H⟩ := bindE H
  refine Ok.region (σ' := ⟨[(0, (L 2 e_api_Bind a0)), (1, (S a1)), (2, (S a2)), (3, (S a3)), (21, (.v (.bool (!t1))))], []⟩) ?_ ?_
  · refine OpsOk.cons rfl (.g (GOk.call rfl rfl cl9 rfl (watchbilllaw02_awake.ok h2) rfl) rfl) ?_
    refine OpsOk.cons rfl (.v (VOk.not (b := t1) rfl rfl) rfl) ?_
    exact .done (.mk ⟨.same _, .same _, .same _, .same _, .same _, trivial⟩ trivial)
  refine Ok.test (b := (!t1)) rfl (fun hb33 => ?_) (fun hb33 => ?_)
  · replace H := ifT H hb33
    refine Ok.seq ?_
    refine Ok.region (σ' := ⟨[(8, (.v (.bool false)))], []⟩) ?_ ?_
    · refine OpsOk.cons rfl (.v (VOk.asg (d := (.v (.bool false))) rfl rfl) rfl) ?_
      exact .done (.mk ⟨.same _, trivial⟩ trivial)
    refine Ok.le (σ' := ⟨[(8, (.v (.bool false)))], []⟩) (.mk ⟨.same _, trivial⟩ trivial) ?_
    refine Ok.ret ?_
    obtain rfl := Option.some.inj H
    exact ⟨.inl rfl, ⟨_, (.cons (.tmp rfl) .nil), rfl⟩, trivial⟩
  · replace H := ifF H hb33
    refine Ok.le (σ' := ⟨[(0, (L 2 e_api_Bind a0)), (1, (S a1)), (2, (S a2)), (3, (S a3))], []⟩) (.mk ⟨.same _, .same _, .same _, .same _, trivial⟩ trivial) ?_
    refine Ok.skip ?_
    refine Ok.seq ?_
    refine Ok.seq ?_
    obtain ⟨t3, h4, H⟩ := bindE H
    refine Ok.region (σ' := ⟨[(0, (L 2 e_api_Bind a0)), (1, (S a1)), (2, (S a2)), (3, (S a3)), (39, (.v (.bool ((((!t3) || (decide ((a1.length : Int) > 3000))) || (decide ((a2.length : Int) > 3000))) || (decide ((a3.length : Int) > 3000))))))], []⟩) ?_ ?_
    · refine OpsOk.cons rfl (.v (VOk.mv (d := (L 2 e_api_Bind a0)) rfl rfl) rfl) ?_
      refine OpsOk.cons rfl (.g (GOk.call rfl rfl cl12 rfl (watchbilllaw02_Few.ok h4) rfl) rfl) ?_
      refine OpsOk.cons rfl (.v (VOk.not (b := t3) rfl rfl) rfl) ?_
      refine OpsOk.cons rfl (.v (VOk.mv (d := (.v (.bool (!t3)))) rfl rfl) rfl) ?_
      refine OpsOk.consI rfl rfl rfl (.one rfl) rfl (fun hw5 => (VOk.g (VOk.mv (d := (S a1)) rfl rfl))) ?_
      refine OpsOk.consI rfl rfl rfl (.one rfl) rfl (fun hw5 => (GOk.fr (fr' := [(26, (S a1))]) ⟨DLe.of_eq (cT hw5).symm, trivial⟩ (VOk.g (VOk.lenStr (s := a1) rfl Try.underlying9 rfl)))) ?_
      refine OpsOk.consI rfl rfl rfl (.one rfl) rfl (fun hw5 => (GOk.fr (fr' := [(27, (.v (.int .i64 (a1.length : Int))))]) ⟨DLe.of_eq (cT hw5).symm, trivial⟩ (VOk.g (VOk.arith (op := .gtr) (k := .i64) (a := (a1.length : Int)) (b := 3000) rfl rfl rfl rfl)))) ?_
      refine OpsOk.cons rfl (.v (VOk.to (VOk.pickI (b := (!t3)) (p := true) (q := (decide ((a1.length : Int) > 3000))) rfl rfl (fun hp6 => rfl) (fun hp6 => (cT (f_beq hp6)))) (pickOr (!t3) (decide ((a1.length : Int) > 3000)))) rfl) ?_
      refine OpsOk.cons rfl (.v (VOk.mv (d := (.v (.bool ((!t3) || (decide ((a1.length : Int) > 3000)))))) rfl rfl) rfl) ?_
      refine OpsOk.consI rfl rfl rfl (.one rfl) rfl (fun hw7 => (VOk.g (VOk.mv (d := (S a2)) rfl rfl))) ?_
      refine OpsOk.consI rfl rfl rfl (.one rfl) rfl (fun hw7 => (GOk.fr (fr' := [(31, (S a2))]) ⟨DLe.of_eq (cT hw7).symm, trivial⟩ (VOk.g (VOk.lenStr (s := a2) rfl Try.underlying9 rfl)))) ?_
      refine OpsOk.consI rfl rfl rfl (.one rfl) rfl (fun hw7 => (GOk.fr (fr' := [(32, (.v (.int .i64 (a2.length : Int))))]) ⟨DLe.of_eq (cT hw7).symm, trivial⟩ (VOk.g (VOk.arith (op := .gtr) (k := .i64) (a := (a2.length : Int)) (b := 3000) rfl rfl rfl rfl)))) ?_
      refine OpsOk.cons rfl (.v (VOk.to (VOk.pickI (b := ((!t3) || (decide ((a1.length : Int) > 3000)))) (p := true) (q := (decide ((a2.length : Int) > 3000))) rfl rfl (fun hp8 => rfl) (fun hp8 => (cT (f_beq hp8)))) (pickOr ((!t3) || (decide ((a1.length : Int) > 3000))) (decide ((a2.length : Int) > 3000)))) rfl) ?_
      refine OpsOk.cons rfl (.v (VOk.mv (d := (.v (.bool (((!t3) || (decide ((a1.length : Int) > 3000))) || (decide ((a2.length : Int) > 3000)))))) rfl rfl) rfl) ?_
      refine OpsOk.consI rfl rfl rfl (.one rfl) rfl (fun hw9 => (VOk.g (VOk.mv (d := (S a3)) rfl rfl))) ?_
      refine OpsOk.consI rfl rfl rfl (.one rfl) rfl (fun hw9 => (GOk.fr (fr' := [(36, (S a3))]) ⟨DLe.of_eq (cT hw9).symm, trivial⟩ (VOk.g (VOk.lenStr (s := a3) rfl Try.underlying9 rfl)))) ?_
      refine OpsOk.consI rfl rfl rfl (.one rfl) rfl (fun hw9 => (GOk.fr (fr' := [(37, (.v (.int .i64 (a3.length : Int))))]) ⟨DLe.of_eq (cT hw9).symm, trivial⟩ (VOk.g (VOk.arith (op := .gtr) (k := .i64) (a := (a3.length : Int)) (b := 3000) rfl rfl rfl rfl)))) ?_
      refine OpsOk.cons rfl (.v (VOk.to (VOk.pickI (b := (((!t3) || (decide ((a1.length : Int) > 3000))) || (decide ((a2.length : Int) > 3000)))) (p := true) (q := (decide ((a3.length : Int) > 3000))) rfl rfl (fun hp10 => rfl) (fun hp10 => (cT (f_beq hp10)))) (pickOr (((!t3) || (decide ((a1.length : Int) > 3000))) || (decide ((a2.length : Int) > 3000))) (decide ((a3.length : Int) > 3000)))) rfl) ?_
      exact .done (.mk ⟨.same _, .same _, .same _, .same _, .same _, trivial⟩ trivial)
    refine Ok.test (b := ((((!t3) || (decide ((a1.length : Int) > 3000))) || (decide ((a2.length : Int) > 3000))) || (decide ((a3.length : Int) > 3000)))) rfl (fun hb32 => ?_) (fun hb32 => ?_)
    · replace H := ifT H hb32
      refine Ok.seq ?_
      refine Ok.region (σ' := ⟨[(8, (.v (.bool true)))], []⟩) ?_ ?_
      · refine OpsOk.cons rfl (.v (VOk.asg (d := (.v (.bool true))) rfl rfl) rfl) ?_
        exact .done (.mk ⟨.same _, trivial⟩ trivial)
      refine Ok.le (σ' := ⟨[(8, (.v (.bool true)))], []⟩) (.mk ⟨.same _, trivial⟩ trivial) ?_
      refine Ok.ret ?_
      obtain rfl := Option.some.inj H
      exact ⟨.inl rfl, ⟨_, (.cons (.tmp rfl) .nil), rfl⟩, trivial⟩
    · replace H := ifF H hb32
      refine Ok.le (σ' := ⟨[(0, (L 2 e_api_Bind a0)), (1, (S a1)), (2, (S a2)), (3, (S a3))], []⟩) (.mk ⟨.same _, .same _, .same _, .same _, trivial⟩ trivial) ?_
      refine Ok.skip ?_
      refine Ok.seq ?_
      obtain ⟨t11, h12, H⟩ := bindE H
      refine Ok.region (σ' := ⟨[(0, (L 2 e_api_Bind a0)), (1, (S a1)), (2, (S a2)), (3, (S a3)), (9, (L 2 e_api_Bind t11.1)), (10, (.v (.int .i64 t11.2)))], []⟩) ?_ ?_
      · refine OpsOk.cons rfl (.v (VOk.mv (d := (L 2 e_api_Bind a0)) rfl rfl) rfl) ?_
        refine OpsOk.cons rfl (.v (VOk.mv (d := (S a1)) rfl rfl) rfl) ?_
        refine OpsOk.cons rfl (.v (VOk.mv (d := (S a2)) rfl rfl) rfl) ?_
        refine OpsOk.cons rfl (.g (GOk.call rfl rfl cl13 rfl (qname_Add.ok h12) rfl) rfl) ?_
        refine OpsOk.cons rfl (.v (VOk.mv (d := (.tup [(L 2 e_api_Bind t11.1), (.v (.int .i64 t11.2))])) rfl rfl) rfl) ?_
        refine OpsOk.cons rfl (.v (VOk.extract (d := (L 2 e_api_Bind t11.1)) rfl rfl rfl) rfl) ?_
        refine OpsOk.cons rfl (.v (VOk.extract (d := (.v (.int .i64 t11.2))) rfl rfl rfl) rfl) ?_
        refine OpsOk.cons rfl (.v (VOk.asg (d := (L 2 e_api_Bind t11.1)) rfl rfl) rfl) ?_
        refine OpsOk.cons rfl (.v (VOk.asg (d := (.v (.int .i64 t11.2))) rfl rfl) rfl) ?_
        exact .done (.mk ⟨.same _, .same _, .same _, .same _, .same _, .same _, trivial⟩ trivial)
      refine Ok.seq ?_
      refine Ok.seq ?_
      refine Ok.region (σ' := ⟨[(0, (L 2 e_api_Bind a0)), (1, (S a1)), (2, (S a2)), (3, (S a3)), (9, (L 2 e_api_Bind t11.1)), (48, (.v (.bool (t11.2 != 0))))], []⟩) ?_ ?_
      · refine OpsOk.cons rfl (.v (VOk.mv (d := (.v (.int .i64 t11.2))) rfl rfl) rfl) ?_
        refine OpsOk.cons rfl (.v (VOk.arith (op := .neq) (k := .i64) (a := t11.2) (b := 0) rfl rfl rfl rfl) rfl) ?_
        exact .done (.mk ⟨.same _, .same _, .same _, .same _, .same _, .same _, trivial⟩ trivial)
      refine Ok.test (b := (t11.2 != 0)) rfl (fun hb31 => ?_) (fun hb31 => ?_)
      · replace H := ifT H hb31
        refine Ok.seq ?_
        refine Ok.region (σ' := ⟨[(8, (.v (.bool ((t11.1.length : Int) == 0))))], []⟩) ?_ ?_
        · refine OpsOk.cons rfl (.v (VOk.mv (d := (L 2 e_api_Bind t11.1)) rfl rfl) rfl) ?_
          refine OpsOk.cons rfl (.v (VOk.lenL (e := e_api_Bind) (xs := t11.1) rfl Try.underlying26 rfl) rfl) ?_
          refine OpsOk.cons rfl (.v (VOk.arith (op := .eql) (k := .i64) (a := (t11.1.length : Int)) (b := 0) rfl rfl rfl rfl) rfl) ?_
          refine OpsOk.cons rfl (.v (VOk.asg (d := (.v (.bool ((t11.1.length : Int) == 0)))) rfl rfl) rfl) ?_
          exact .done (.mk ⟨.same _, trivial⟩ trivial)
        refine Ok.le (σ' := ⟨[(8, (.v (.bool ((t11.1.length : Int) == 0))))], []⟩) (.mk ⟨.same _, trivial⟩ trivial) ?_
        refine Ok.ret ?_
        obtain rfl := Option.some.inj H
        exact ⟨.inl rfl, ⟨_, (.cons (.tmp rfl) .nil), rfl⟩, trivial⟩
      · replace H := ifF H hb31
        refine Ok.le (σ' := ⟨[(0, (L 2 e_api_Bind a0)), (1, (S a1)), (2, (S a2)), (3, (S a3)), (9, (L 2 e_api_Bind t11.1))], []⟩) (.mk ⟨.same _, .same _, .same _, .same _, .same _, trivial⟩ trivial) ?_
        refine Ok.skip ?_
        refine Ok.seq ?_
        obtain ⟨t13, h14, H⟩ := bindE H
        refine Ok.region (σ' := ⟨[(0, (L 2 e_api_Bind a0)), (1, (S a1)), (2, (S a2)), (3, (S a3)), (9, (L 2 e_api_Bind t11.1)), (11, (S t13.1)), (12, (.v (.bool t13.2)))], []⟩) ?_ ?_
        · refine OpsOk.cons rfl (.v (VOk.mv (d := (L 2 e_api_Bind t11.1)) rfl rfl) rfl) ?_
          refine OpsOk.cons rfl (.v (VOk.mv (d := (S a1)) rfl rfl) rfl) ?_
          refine OpsOk.cons rfl (.g (GOk.call rfl rfl cl16 rfl (qname_Find.ok h14) rfl) rfl) ?_
          refine OpsOk.cons rfl (.v (VOk.mv (d := (.tup [(S t13.1), (.v (.bool t13.2))])) rfl rfl) rfl) ?_
          refine OpsOk.cons rfl (.v (VOk.extract (d := (S t13.1)) rfl rfl rfl) rfl) ?_
          refine OpsOk.cons rfl (.v (VOk.extract (d := (.v (.bool t13.2))) rfl rfl rfl) rfl) ?_
          refine OpsOk.cons rfl (.v (VOk.asg (d := (S t13.1)) rfl rfl) rfl) ?_
          refine OpsOk.cons rfl (.v (VOk.asg (d := (.v (.bool t13.2))) rfl rfl) rfl) ?_
          exact .done (.mk ⟨.same _, .same _, .same _, .same _, .same _, .same _, .same _, trivial⟩ trivial)
        refine Ok.seq ?_
        refine Ok.seq ?_
        refine Ok.region (σ' := ⟨[(0, (L 2 e_api_Bind a0)), (1, (S a1)), (3, (S a3)), (9, (L 2 e_api_Bind t11.1)), (72, (.v (.bool (((!(t13.1 == a2)) || (!t13.2)) || ((t11.1.length : Int) != (IntKind.i64.wrap ((a0.length : Int) + 1)))))))], []⟩) ?_ ?_
        · refine OpsOk.cons rfl (.v (VOk.mv (d := (S t13.1)) rfl rfl) rfl) ?_
          refine OpsOk.cons rfl (.v (VOk.mv (d := (S a2)) rfl rfl) rfl) ?_
          refine OpsOk.cons rfl (.v (VOk.strOp (op := .neq) (a := t13.1) (b := a2) rfl rfl rfl rfl) rfl) ?_
          refine OpsOk.cons rfl (.v (VOk.mv (d := (.v (.bool (!(t13.1 == a2))))) rfl rfl) rfl) ?_
          refine OpsOk.consI rfl rfl rfl (.one rfl) rfl (fun hw15 => (VOk.g (VOk.mv (d := (.v (.bool t13.2))) rfl rfl))) ?_
          refine OpsOk.consI rfl rfl rfl (.one rfl) rfl (fun hw15 => (GOk.fr (fr' := [(62, (.v (.bool t13.2)))]) ⟨DLe.of_eq (cT hw15).symm, trivial⟩ (VOk.g (VOk.not (b := t13.2) rfl rfl)))) ?_
          refine OpsOk.cons rfl (.v (VOk.to (VOk.pickI (b := (!(t13.1 == a2))) (p := true) (q := (!t13.2)) rfl rfl (fun hp16 => rfl) (fun hp16 => (cT (f_beq hp16)))) (pickOr (!(t13.1 == a2)) (!t13.2))) rfl) ?_
          refine OpsOk.cons rfl (.v (VOk.mv (d := (.v (.bool ((!(t13.1 == a2)) || (!t13.2))))) rfl rfl) rfl) ?_
          refine OpsOk.consI rfl rfl rfl (.one rfl) rfl (fun hw17 => (VOk.g (VOk.mv (d := (L 2 e_api_Bind t11.1)) rfl rfl))) ?_
          refine OpsOk.consI rfl rfl rfl (.one rfl) rfl (fun hw17 => (GOk.fr (fr' := [(66, (L 2 e_api_Bind t11.1))]) ⟨DLe.of_eq (cT hw17).symm, trivial⟩ (VOk.g (VOk.lenL (e := e_api_Bind) (xs := t11.1) rfl Try.underlying26 rfl)))) ?_
          refine OpsOk.consI rfl rfl rfl (.one rfl) rfl (fun hw17 => (VOk.g (VOk.mv (d := (L 2 e_api_Bind a0)) rfl rfl))) ?_
          refine OpsOk.consI rfl rfl rfl (.one rfl) rfl (fun hw17 => (GOk.fr (fr' := [(68, (L 2 e_api_Bind a0))]) ⟨DLe.of_eq (cT hw17).symm, trivial⟩ (VOk.g (VOk.lenL (e := e_api_Bind) (xs := a0) rfl Try.underlying26 rfl)))) ?_
          refine OpsOk.consI rfl rfl rfl (.one rfl) rfl (fun hw17 => (GOk.fr (fr' := [(69, (.v (.int .i64 (a0.length : Int))))]) ⟨DLe.of_eq (cT hw17).symm, trivial⟩ (VOk.g (VOk.arith (op := .add) (k := .i64) (a := (a0.length : Int)) (b := 1) rfl rfl rfl rfl)))) ?_
          refine OpsOk.consI rfl rfl rfl (.one rfl) rfl (fun hw17 => (GOk.fr (fr' := [(67, (.v (.int .i64 (t11.1.length : Int)))), (70, (.v (.int .i64 (IntKind.i64.wrap ((a0.length : Int) + 1)))))]) ⟨DLe.of_eq (cT hw17).symm, DLe.of_eq (cT hw17).symm, trivial⟩ (VOk.g (VOk.arith (op := .neq) (k := .i64) (a := (t11.1.length : Int)) (b := (IntKind.i64.wrap ((a0.length : Int) + 1))) rfl rfl rfl rfl)))) ?_
          refine OpsOk.cons rfl (.v (VOk.to (VOk.pickI (b := ((!(t13.1 == a2)) || (!t13.2))) (p := true) (q := ((t11.1.length : Int) != (IntKind.i64.wrap ((a0.length : Int) + 1)))) rfl rfl (fun hp18 => rfl) (fun hp18 => (cT (f_beq hp18)))) (pickOr ((!(t13.1 == a2)) || (!t13.2)) ((t11.1.length : Int) != (IntKind.i64.wrap ((a0.length : Int) + 1))))) rfl) ?_
          exact .done (.mk ⟨.same _, .same _, .same _, .same _, .same _, trivial⟩ trivial)
        refine Ok.test (b := (((!(t13.1 == a2)) || (!t13.2)) || ((t11.1.length : Int) != (IntKind.i64.wrap ((a0.length : Int) + 1))))) rfl (fun hb30 => ?_) (fun hb30 => ?_)
        · replace H := ifT H hb30
          refine Ok.seq ?_
          refine Ok.region (σ' := ⟨[(8, (.v (.bool false)))], []⟩) ?_ ?_
          · refine OpsOk.cons rfl (.v (VOk.asg (d := (.v (.bool false))) rfl rfl) rfl) ?_
            exact .done (.mk ⟨.same _, trivial⟩ trivial)
          refine Ok.le (σ' := ⟨[(8, (.v (.bool false)))], []⟩) (.mk ⟨.same _, trivial⟩ trivial) ?_
          refine Ok.ret ?_
          obtain rfl := Option.some.inj H
          exact ⟨.inl rfl, ⟨_, (.cons (.tmp rfl) .nil), rfl⟩, trivial⟩
        · replace H := ifF H hb30
          refine Ok.le (σ' := ⟨[(0, (L 2 e_api_Bind a0)), (1, (S a1)), (3, (S a3)), (9, (L 2 e_api_Bind t11.1))], []⟩) (.mk ⟨.same _, .same _, .same _, .same _, trivial⟩ trivial) ?_
          refine Ok.skip ?_
          refine Ok.seq ?_
          obtain ⟨t19, h20, H⟩ := bindE H
          refine Ok.region (σ' := ⟨[(0, (L 2 e_api_Bind a0)), (1, (S a1)), (3, (S a3)), (9, (L 2 e_api_Bind t11.1)), (13, (S t19.1)), (15, (.v (.bool t19.2.2)))], []⟩) ?_ ?_
          · refine OpsOk.cons rfl (.v (VOk.mv (d := (S a3)) rfl rfl) rfl) ?_
            refine OpsOk.cons rfl (.g (GOk.call rfl rfl cl10 rfl (qname_Split.ok h20) rfl) rfl) ?_
            refine OpsOk.cons rfl (.v (VOk.mv (d := (.tup [(S t19.1), (S t19.2.1), (.v (.bool t19.2.2))])) rfl rfl) rfl) ?_
            refine OpsOk.cons rfl (.v (VOk.extract (d := (S t19.1)) rfl rfl rfl) rfl) ?_
            refine OpsOk.cons rfl (.v (VOk.extract (d := (S t19.2.1)) rfl rfl rfl) rfl) ?_
            refine OpsOk.cons rfl (.v (VOk.extract (d := (.v (.bool t19.2.2))) rfl rfl rfl) rfl) ?_
            refine OpsOk.cons rfl (.v (VOk.asg (d := (S t19.1)) rfl rfl) rfl) ?_
            refine OpsOk.cons rfl (.v (VOk.asg (d := (S t19.2.1)) rfl rfl) rfl) ?_
            refine OpsOk.cons rfl (.v (VOk.asg (d := (.v (.bool t19.2.2))) rfl rfl) rfl) ?_
            exact .done (.mk ⟨.same _, .same _, .same _, .same _, .same _, .same _, trivial⟩ trivial)
          refine Ok.seq ?_
          refine Ok.seq ?_
          refine Ok.region (σ' := ⟨[(0, (L 2 e_api_Bind a0)), (3, (S a3)), (9, (L 2 e_api_Bind t11.1)), (85, (.v (.bool ((!t19.2.2) || (t19.1 == a1)))))], []⟩) ?_ ?_
          · refine OpsOk.cons rfl (.v (VOk.mv (d := (.v (.bool t19.2.2))) rfl rfl) rfl) ?_
            refine OpsOk.cons rfl (.v (VOk.not (b := t19.2.2) rfl rfl) rfl) ?_
            refine OpsOk.cons rfl (.v (VOk.mv (d := (.v (.bool (!t19.2.2)))) rfl rfl) rfl) ?_
            refine OpsOk.consI rfl rfl rfl (.one rfl) rfl (fun hw21 => (VOk.g (VOk.mv (d := (S t19.1)) rfl rfl))) ?_
            refine OpsOk.consI rfl rfl rfl (.one rfl) rfl (fun hw21 => (VOk.g (VOk.mv (d := (S a1)) rfl rfl))) ?_
            refine OpsOk.consI rfl rfl rfl (.one rfl) rfl (fun hw21 => (GOk.fr (fr' := [(82, (S t19.1)), (83, (S a1))]) ⟨DLe.of_eq (cT hw21).symm, DLe.of_eq (cT hw21).symm, trivial⟩ (VOk.g (VOk.strOp (op := .eql) (a := t19.1) (b := a1) rfl rfl rfl rfl)))) ?_
            refine OpsOk.cons rfl (.v (VOk.to (VOk.pickI (b := (!t19.2.2)) (p := true) (q := (t19.1 == a1)) rfl rfl (fun hp22 => rfl) (fun hp22 => (cT (f_beq hp22)))) (pickOr (!t19.2.2) (t19.1 == a1))) rfl) ?_
            exact .done (.mk ⟨.same _, .same _, .same _, .same _, trivial⟩ trivial)
          refine Ok.test (b := ((!t19.2.2) || (t19.1 == a1))) rfl (fun hb29 => ?_) (fun hb29 => ?_)
          · replace H := ifT H hb29
            refine Ok.seq ?_
            refine Ok.region (σ' := ⟨[(8, (.v (.bool true)))], []⟩) ?_ ?_
            · refine OpsOk.cons rfl (.v (VOk.asg (d := (.v (.bool true))) rfl rfl) rfl) ?_
              exact .done (.mk ⟨.same _, trivial⟩ trivial)
            refine Ok.le (σ' := ⟨[(8, (.v (.bool true)))], []⟩) (.mk ⟨.same _, trivial⟩ trivial) ?_
            refine Ok.ret ?_
            obtain rfl := Option.some.inj H
            exact ⟨.inl rfl, ⟨_, (.cons (.tmp rfl) .nil), rfl⟩, trivial⟩
          · replace H := ifF H hb29
            refine Ok.le (σ' := ⟨[(0, (L 2 e_api_Bind a0)), (3, (S a3)), (9, (L 2 e_api_Bind t11.1))], []⟩) (.mk ⟨.same _, .same _, .same _, trivial⟩ trivial) ?_
            refine Ok.skip ?_
            refine Ok.seq ?_
            obtain ⟨t23, h24, H⟩ := bindE H
            refine Ok.region (σ' := ⟨[(3, (S a3)), (9, (L 2 e_api_Bind t11.1)), (16, (.bref 16 0)), (17, (.v (.int .i64 t23.2)))], [(16, (.box true [(S t23.1.Space), (S t23.1.Local)]))]⟩) ?_ ?_
            · refine OpsOk.cons rfl (.v (VOk.mv (d := (L 2 e_api_Bind a0)) rfl rfl) rfl) ?_
              refine OpsOk.cons rfl (.v (VOk.mv (d := (S a3)) rfl rfl) rfl) ?_
              refine OpsOk.cons rfl (.g (GOk.call rfl rfl cl18 rfl (qname_Resolve.ok h24) rfl) rfl) ?_
              refine OpsOk.cons rfl (.v (VOk.mv (d := (.tup [(.agg (e_api_Name t23.1)), (.v (.int .i64 t23.2))])) rfl rfl) rfl) ?_
              refine OpsOk.cons rfl (.v (VOk.extract (d := (.agg (e_api_Name t23.1))) rfl rfl rfl) rfl) ?_
              refine OpsOk.cons rfl (.v (VOk.extract (d := (.v (.int .i64 t23.2))) rfl rfl rfl) rfl) ?_
              refine OpsOk.cons rfl (OpOk.alloc 16 [none, none] rfl zo40 rfl rfl) ?_
              refine OpsOk.cons rfl (OpOk.to (σ2 := St.put ⟨_, (16, (.box true [(S t23.1.Space), (S t23.1.Local)])) :: _⟩ _ .junk) (.storeB rfl sz40 rfl rfl rfl rfl rfl) rfl) ?_
              refine OpsOk.cons rfl (.v (VOk.asg (d := (.v (.int .i64 t23.2))) rfl rfl) rfl) ?_
              exact .done (.mk ⟨.same _, .same _, .same _, .same _, trivial⟩ ⟨.same _, trivial⟩)
            refine Ok.seq ?_
            obtain ⟨t25, h26, H⟩ := bindE H
            refine Ok.region (σ' := ⟨[(16, (.bref 16 0)), (17, (.v (.int .i64 t23.2))), (18, (.bref 18 0)), (19, (.v (.int .i64 t25.2)))], [(16, (.box true [(S t23.1.Space), (S t23.1.Local)])), (18, (.box true [(S t25.1.Space), (S t25.1.Local)]))]⟩) ?_ ?_
            · refine OpsOk.cons rfl (.v (VOk.mv (d := (L 2 e_api_Bind t11.1)) rfl rfl) rfl) ?_
              refine OpsOk.cons rfl (.v (VOk.mv (d := (S a3)) rfl rfl) rfl) ?_
              refine OpsOk.cons rfl (.g (GOk.call rfl rfl cl18 rfl (qname_Resolve.ok h26) rfl) rfl) ?_
              refine OpsOk.cons rfl (.v (VOk.mv (d := (.tup [(.agg (e_api_Name t25.1)), (.v (.int .i64 t25.2))])) rfl rfl) rfl) ?_
              refine OpsOk.cons rfl (.v (VOk.extract (d := (.agg (e_api_Name t25.1))) rfl rfl rfl) rfl) ?_
              refine OpsOk.cons rfl (.v (VOk.extract (d := (.v (.int .i64 t25.2))) rfl rfl rfl) rfl) ?_
              refine OpsOk.cons rfl (OpOk.alloc 18 [none, none] rfl zo40 rfl rfl) ?_
              refine OpsOk.cons rfl (OpOk.to (σ2 := St.put ⟨_, (18, (.box true [(S t25.1.Space), (S t25.1.Local)])) :: _⟩ _ .junk) (.storeB rfl sz40 rfl rfl rfl rfl rfl) rfl) ?_
              refine OpsOk.cons rfl (.v (VOk.asg (d := (.v (.int .i64 t25.2))) rfl rfl) rfl) ?_
              exact .done (.mk ⟨.same _, .same _, .same _, .same _, trivial⟩ ⟨.same _, .same _, trivial⟩)
            refine Ok.seq ?_
            refine Ok.region (σ' := ⟨[(8, (.v (.bool ((t23.1.Space == t25.1.Space && (t23.1.Local == t25.1.Local && true)) && (t23.2 == t25.2)))))], []⟩) ?_ ?_
            · refine OpsOk.cons rfl (.v (VOk.to (d' := (.agg (e_api_Name t23.1))) (.loadBAgg rfl Try.underlying40 rfl sz40 rfl rfl rfl) rfl) rfl) ?_
              refine OpsOk.cons rfl (.v (VOk.to (d' := (.agg (e_api_Name t25.1))) (.loadBAgg rfl Try.underlying40 rfl sz40 rfl rfl rfl) rfl) rfl) ?_
              refine OpsOk.cons rfl (.v (VOk.eqS' (op := .eql) (d := (.v (.bool (t23.1.Space == t25.1.Space && (t23.1.Local == t25.1.Local && true))))) rfl (.inl rfl) (eqt40 9998) ag40 eg40 rfl rfl rfl rfl) rfl) ?_
              refine OpsOk.cons rfl (.v (VOk.mv (d := (.v (.bool (t23.1.Space == t25.1.Space && (t23.1.Local == t25.1.Local && true))))) rfl rfl) rfl) ?_
              refine OpsOk.consI rfl rfl rfl (.one rfl) rfl (fun hw27 => (VOk.g (VOk.mv (d := (.v (.int .i64 t23.2))) rfl rfl))) ?_
              refine OpsOk.consI rfl rfl rfl (.one rfl) rfl (fun hw27 => (VOk.g (VOk.mv (d := (.v (.int .i64 t25.2))) rfl rfl))) ?_
              refine OpsOk.consI rfl rfl rfl (.one rfl) rfl (fun hw27 => (GOk.fr (fr' := [(102, (.v (.int .i64 t23.2))), (103, (.v (.int .i64 t25.2)))]) ⟨DLe.of_eq (cT hw27).symm, DLe.of_eq (cT hw27).symm, trivial⟩ (VOk.g (VOk.arith (op := .eql) (k := .i64) (a := t23.2) (b := t25.2) rfl rfl rfl rfl)))) ?_
              refine OpsOk.cons rfl (.v (VOk.to (VOk.pickI (b := (t23.1.Space == t25.1.Space && (t23.1.Local == t25.1.Local && true))) (p := (t23.2 == t25.2)) (q := false) rfl rfl (fun hp28 => (cT (t_beq hp28))) (fun hp28 => rfl)) (pickAnd (t23.1.Space == t25.1.Space && (t23.1.Local == t25.1.Local && true)) (t23.2 == t25.2))) rfl) ?_
              refine OpsOk.cons rfl (.v (VOk.asg (d := (.v (.bool ((t23.1.Space == t25.1.Space && (t23.1.Local == t25.1.Local && true)) && (t23.2 == t25.2))))) rfl rfl) rfl) ?_
              exact .done (.mk ⟨.same _, trivial⟩ trivial)
            refine Ok.le (σ' := ⟨[(8, (.v (.bool ((t23.1.Space == t25.1.Space && (t23.1.Local == t25.1.Local && true)) && (t23.2 == t25.2)))))], []⟩) (.mk ⟨.same _, trivial⟩ trivial) ?_
            refine Ok.ret ?_
            obtain rfl := Option.some.inj H
            exact ⟨.inl rfl, ⟨_, (.cons (.tmp rfl) .nil), rfl⟩, trivial⟩

end Go.Proofs.Ythiopccchgkjcaa.Sh
