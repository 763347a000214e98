import Derived.Test.YtnabecgfaecbmaaProg
import Derived.Test.YtnabecgfaecbmaaVxM
namespace Go.Proofs.Ytnabecgfaecbmaa.Sh
open Go Go.RowKit Go.Proofs.Vx
set_option linter.unusedVariables false

set_option maxRecDepth 100000
set_option maxHeartbeats 1000000
structure T_utf_span where
  From_ : Int
  To_ : Int
  deriving Inhabited
def e_utf_span (x : T_utf_span) : List D := [(.v (.int .i32 x.From_)), (.v (.int .i32 x.To_))]
theorem mixed : Try.prog.follows .mixedOrders = true := by kernel_rfl
theorem cl27 : callable Try.prog 27 = true := by kernel_rfl
theorem sz5 : szOf Try.prog 5 = some 1 := by kernel_rfl
theorem cl28 : callable Try.prog 28 = true := by kernel_rfl
theorem cl29 : callable Try.prog 29 = true := by kernel_rfl
theorem cl10 : callable Try.prog 10 = true := by kernel_rfl
theorem sz21 : szOf Try.prog 21 = some 1 := by kernel_rfl
theorem zs5 : (zeroOf Try.prog 5).map (fun z => z.cells.size) = some 1 := by kernel_rfl
theorem cl33 : callable Try.prog 33 = true := by kernel_rfl
theorem cl12 : callable Try.prog 12 = true := by kernel_rfl
theorem fa48 {fs : Array Field} (h : Try.prog.underlying 48 = some (.struct fs)) : fieldsAt Try.prog fs [(0, 1), (1, 1)] := by rw [Try.underlying48] at h; cases h; unfold fieldsAt; kernel_rfl
theorem zo48 : zeroOf Try.prog 48 = some (.agg #[(.int .i32 0), (.int .i32 0)]) := by kernel_rfl
theorem sz48 : szOf Try.prog 48 = some 2 := by kernel_rfl
theorem zs48 : (zeroOf Try.prog 48).map (fun z => z.cells.size) = some 2 := by kernel_rfl
theorem cl34 : callable Try.prog 34 = true := by kernel_rfl
theorem cl17 : callable Try.prog 17 = true := by kernel_rfl
theorem cl19 : callable Try.prog 19 = true := by kernel_rfl
theorem cl23 : callable Try.prog 23 = true := by kernel_rfl
theorem cl13 : callable Try.prog 13 = true := by kernel_rfl
theorem cl15 : callable Try.prog 15 = true := by kernel_rfl
theorem cl21 : callable Try.prog 21 = true := by kernel_rfl
theorem cl25 : callable Try.prog 25 = true := by kernel_rfl
theorem cl9 : callable Try.prog 9 = true := by kernel_rfl
theorem cl30 : callable Try.prog 30 = true := by kernel_rfl
theorem cl31 : callable Try.prog 31 = true := by kernel_rfl
theorem cl32 : callable Try.prog 32 = true := by kernel_rfl
theorem cl11 : callable Try.prog 11 = true := by kernel_rfl
theorem cl14 : callable Try.prog 14 = true := by kernel_rfl
theorem sz3 : szOf Try.prog 3 = some 1 := by kernel_rfl
theorem zs3 : (zeroOf Try.prog 3).map (fun z => z.cells.size) = some 1 := by kernel_rfl
theorem cl35 : callable Try.prog 35 = true := by kernel_rfl
theorem cl16 : callable Try.prog 16 = true := by kernel_rfl
theorem cl18 : callable Try.prog 18 = true := by kernel_rfl
theorem cl20 : callable Try.prog 20 = true := by kernel_rfl
theorem cl22 : callable Try.prog 22 = true := by kernel_rfl
theorem cl24 : callable Try.prog 24 = true := by kernel_rfl
theorem cl26 : callable Try.prog 26 = true := by kernel_rfl
/-! watchbill/utf.shape: function 27 -/
def utf_shape (a0 : Int) : Option (Int × Int) := (if (decide (a0 < 128)) = true then some (1, (IntKind.i32.wrap a0)) else (if (((a0).fdiv (2 ^ min (Int.toNat 5) (IntKind.bits .u8))) == 6) = true then some (2, (IntKind.i32.wrap (bitAnd .u8 a0 31))) else (if (((a0).fdiv (2 ^ min (Int.toNat 4) (IntKind.bits .u8))) == 14) = true then some (3, (IntKind.i32.wrap (bitAnd .u8 a0 15))) else (if (((a0).fdiv (2 ^ min (Int.toNat 3) (IntKind.bits .u8))) == 30) = true then some (4, (IntKind.i32.wrap (bitAnd .u8 a0 7))) else some (0, 0)))))
theorem utf_shape.ok {a0 : Int} {r : Int × Int} (H : utf_shape a0 = some r) : Vx.Fn Try.prog 27 [(.v (.int .u8 a0))] [] (.tup [(.v (.int .i64 r.1)), (.v (.int .i32 r.2))]) [] := by
  unfold utf_shape at H
  refine Vx.Fn.of_ok Try.func27 rfl (Nat.le_of_ble_eq_true rfl) ?_
  refine Ok.seq ?_
  refine Ok.region (σ' := ⟨[(0, (.v (.int .u8 a0)))], []⟩) ?_ ?_
  · refine OpsOk.cons rfl (.v (VOk.asg (d := (.v (.int .i64 0))) rfl rfl) rfl) ?_
    refine OpsOk.cons rfl (.v (VOk.asg (d := (.v (.int .i32 0))) rfl rfl) rfl) ?_
    exact .done (.mk ⟨.same _, trivial⟩ trivial)
  refine Ok.seq ?_
  refine Ok.block ?_
  refine Ok.seq ?_
  refine Ok.region (σ' := ⟨[(0, (.v (.int .u8 a0))), (4, (.v (.bool (decide (a0 < 128)))))], []⟩) ?_ ?_
  · refine OpsOk.cons rfl (.v (VOk.mv (d := (.v (.int .u8 a0))) rfl rfl) rfl) ?_
    refine OpsOk.cons rfl (.v (VOk.arith (op := .lss) (k := .u8) (a := a0) (b := 128) rfl rfl rfl rfl) rfl) ?_
    refine OpsOk.cons rfl (.v (VOk.asg (d := (.v (.bool (decide (a0 < 128))))) rfl rfl) rfl) ?_
    exact .done (.mk ⟨.same _, .same _, trivial⟩ trivial)
  refine Ok.test (b := (decide (a0 < 128))) rfl (fun hb4 => ?_) (fun hb4 => ?_)
  · replace H := ifT H hb4
    refine Ok.seq ?_
    refine Ok.region (σ' := ⟨[(2, (.v (.int .i64 1))), (3, (.v (.int .i32 (IntKind.i32.wrap a0))))], []⟩) ?_ ?_
    · refine OpsOk.cons rfl (.v (VOk.mv (d := (.v (.int .u8 a0))) rfl rfl) rfl) ?_
      refine OpsOk.cons rfl (.v (VOk.convInt (a := a0) rfl (by rw [Try.underlying5]; rfl) Try.underlying21 rfl) rfl) ?_
      refine OpsOk.cons rfl (.v (VOk.asg (d := (.v (.int .i64 1))) rfl rfl) rfl) ?_
      refine OpsOk.cons rfl (.v (VOk.asg (d := (.v (.int .i32 (IntKind.i32.wrap a0)))) rfl rfl) rfl) ?_
      exact .done (.mk ⟨.same _, .same _, trivial⟩ trivial)
    refine Ok.le (σ' := ⟨[(2, (.v (.int .i64 1))), (3, (.v (.int .i32 (IntKind.i32.wrap a0))))], []⟩) (.mk ⟨.same _, .same _, trivial⟩ trivial) ?_
    refine Ok.ret ?_
    obtain rfl := Option.some.inj H
    exact ⟨.inl rfl, rfl, rfl⟩
  · replace H := ifF H hb4
    refine Ok.seq ?_
    refine Ok.region (σ' := ⟨[(0, (.v (.int .u8 a0))), (9, (.v (.bool (((a0).fdiv (2 ^ min (Int.toNat 5) (IntKind.bits .u8))) == 6))))], []⟩) ?_ ?_
    · refine OpsOk.cons rfl (.v (VOk.mv (d := (.v (.int .u8 a0))) rfl rfl) rfl) ?_
      refine OpsOk.cons rfl (.v (VOk.shr (a := a0) (b := 5) rfl rfl rfl (by decide)) rfl) ?_
      refine OpsOk.cons rfl (.v (VOk.arith (op := .eql) (k := .u8) (a := ((a0).fdiv (2 ^ min (Int.toNat 5) (IntKind.bits .u8)))) (b := 6) rfl rfl rfl rfl) rfl) ?_
      refine OpsOk.cons rfl (.v (VOk.asg (d := (.v (.bool (((a0).fdiv (2 ^ min (Int.toNat 5) (IntKind.bits .u8))) == 6)))) rfl rfl) rfl) ?_
      exact .done (.mk ⟨.same _, .same _, trivial⟩ trivial)
    refine Ok.test (b := (((a0).fdiv (2 ^ min (Int.toNat 5) (IntKind.bits .u8))) == 6)) rfl (fun hb3 => ?_) (fun hb3 => ?_)
    · replace H := ifT H hb3
      refine Ok.seq ?_
      refine Ok.region (σ' := ⟨[(2, (.v (.int .i64 2))), (3, (.v (.int .i32 (IntKind.i32.wrap (bitAnd .u8 a0 31)))))], []⟩) ?_ ?_
      · refine OpsOk.cons rfl (.v (VOk.mv (d := (.v (.int .u8 a0))) rfl rfl) rfl) ?_
        refine OpsOk.cons rfl (.v (VOk.arith (op := .and) (k := .u8) (a := a0) (b := 31) rfl rfl rfl rfl) rfl) ?_
        refine OpsOk.cons rfl (.v (VOk.convInt (a := (bitAnd .u8 a0 31)) rfl (by rw [Try.underlying5]; rfl) Try.underlying21 rfl) rfl) ?_
        refine OpsOk.cons rfl (.v (VOk.asg (d := (.v (.int .i64 2))) rfl rfl) rfl) ?_
        refine OpsOk.cons rfl (.v (VOk.asg (d := (.v (.int .i32 (IntKind.i32.wrap (bitAnd .u8 a0 31))))) rfl rfl) rfl) ?_
        exact .done (.mk ⟨.same _, .same _, trivial⟩ trivial)
      refine Ok.le (σ' := ⟨[(2, (.v (.int .i64 2))), (3, (.v (.int .i32 (IntKind.i32.wrap (bitAnd .u8 a0 31)))))], []⟩) (.mk ⟨.same _, .same _, trivial⟩ trivial) ?_
      refine Ok.ret ?_
      obtain rfl := Option.some.inj H
      exact ⟨.inl rfl, rfl, rfl⟩
    · replace H := ifF H hb3
      refine Ok.seq ?_
      refine Ok.region (σ' := ⟨[(0, (.v (.int .u8 a0))), (16, (.v (.bool (((a0).fdiv (2 ^ min (Int.toNat 4) (IntKind.bits .u8))) == 14))))], []⟩) ?_ ?_
      · refine OpsOk.cons rfl (.v (VOk.mv (d := (.v (.int .u8 a0))) rfl rfl) rfl) ?_
        refine OpsOk.cons rfl (.v (VOk.shr (a := a0) (b := 4) rfl rfl rfl (by decide)) rfl) ?_
        refine OpsOk.cons rfl (.v (VOk.arith (op := .eql) (k := .u8) (a := ((a0).fdiv (2 ^ min (Int.toNat 4) (IntKind.bits .u8)))) (b := 14) rfl rfl rfl rfl) rfl) ?_
        refine OpsOk.cons rfl (.v (VOk.asg (d := (.v (.bool (((a0).fdiv (2 ^ min (Int.toNat 4) (IntKind.bits .u8))) == 14)))) rfl rfl) rfl) ?_
        exact .done (.mk ⟨.same _, .same _, trivial⟩ trivial)
      refine Ok.test (b := (((a0).fdiv (2 ^ min (Int.toNat 4) (IntKind.bits .u8))) == 14)) rfl (fun hb2 => ?_) (fun hb2 => ?_)
      · replace H := ifT H hb2
        refine Ok.seq ?_
        refine Ok.region (σ' := ⟨[(2, (.v (.int .i64 3))), (3, (.v (.int .i32 (IntKind.i32.wrap (bitAnd .u8 a0 15)))))], []⟩) ?_ ?_
        · refine OpsOk.cons rfl (.v (VOk.mv (d := (.v (.int .u8 a0))) rfl rfl) rfl) ?_
          refine OpsOk.cons rfl (.v (VOk.arith (op := .and) (k := .u8) (a := a0) (b := 15) rfl rfl rfl rfl) rfl) ?_
          refine OpsOk.cons rfl (.v (VOk.convInt (a := (bitAnd .u8 a0 15)) rfl (by rw [Try.underlying5]; rfl) Try.underlying21 rfl) rfl) ?_
          refine OpsOk.cons rfl (.v (VOk.asg (d := (.v (.int .i64 3))) rfl rfl) rfl) ?_
          refine OpsOk.cons rfl (.v (VOk.asg (d := (.v (.int .i32 (IntKind.i32.wrap (bitAnd .u8 a0 15))))) rfl rfl) rfl) ?_
          exact .done (.mk ⟨.same _, .same _, trivial⟩ trivial)
        refine Ok.le (σ' := ⟨[(2, (.v (.int .i64 3))), (3, (.v (.int .i32 (IntKind.i32.wrap (bitAnd .u8 a0 15)))))], []⟩) (.mk ⟨.same _, .same _, trivial⟩ trivial) ?_
        refine Ok.ret ?_
        obtain rfl := Option.some.inj H
        exact ⟨.inl rfl, rfl, rfl⟩
      · replace H := ifF H hb2
        refine Ok.seq ?_
        refine Ok.region (σ' := ⟨[(0, (.v (.int .u8 a0))), (23, (.v (.bool (((a0).fdiv (2 ^ min (Int.toNat 3) (IntKind.bits .u8))) == 30))))], []⟩) ?_ ?_
        · refine OpsOk.cons rfl (.v (VOk.mv (d := (.v (.int .u8 a0))) rfl rfl) rfl) ?_
          refine OpsOk.cons rfl (.v (VOk.shr (a := a0) (b := 3) rfl rfl rfl (by decide)) rfl) ?_
          refine OpsOk.cons rfl (.v (VOk.arith (op := .eql) (k := .u8) (a := ((a0).fdiv (2 ^ min (Int.toNat 3) (IntKind.bits .u8)))) (b := 30) rfl rfl rfl rfl) rfl) ?_
          refine OpsOk.cons rfl (.v (VOk.asg (d := (.v (.bool (((a0).fdiv (2 ^ min (Int.toNat 3) (IntKind.bits .u8))) == 30)))) rfl rfl) rfl) ?_
          exact .done (.mk ⟨.same _, .same _, trivial⟩ trivial)
        refine Ok.test (b := (((a0).fdiv (2 ^ min (Int.toNat 3) (IntKind.bits .u8))) == 30)) rfl (fun hb1 => ?_) (fun hb1 => ?_)
        · replace H := ifT H hb1
          refine Ok.seq ?_
          refine Ok.region (σ' := ⟨[(2, (.v (.int .i64 4))), (3, (.v (.int .i32 (IntKind.i32.wrap (bitAnd .u8 a0 7)))))], []⟩) ?_ ?_
          · refine OpsOk.cons rfl (.v (VOk.mv (d := (.v (.int .u8 a0))) rfl rfl) rfl) ?_
            refine OpsOk.cons rfl (.v (VOk.arith (op := .and) (k := .u8) (a := a0) (b := 7) rfl rfl rfl rfl) rfl) ?_
            refine OpsOk.cons rfl (.v (VOk.convInt (a := (bitAnd .u8 a0 7)) rfl (by rw [Try.underlying5]; rfl) Try.underlying21 rfl) rfl) ?_
            refine OpsOk.cons rfl (.v (VOk.asg (d := (.v (.int .i64 4))) rfl rfl) rfl) ?_
            refine OpsOk.cons rfl (.v (VOk.asg (d := (.v (.int .i32 (IntKind.i32.wrap (bitAnd .u8 a0 7))))) rfl rfl) rfl) ?_
            exact .done (.mk ⟨.same _, .same _, trivial⟩ trivial)
          refine Ok.le (σ' := ⟨[(2, (.v (.int .i64 4))), (3, (.v (.int .i32 (IntKind.i32.wrap (bitAnd .u8 a0 7)))))], []⟩) (.mk ⟨.same _, .same _, trivial⟩ trivial) ?_
          refine Ok.ret ?_
          obtain rfl := Option.some.inj H
          exact ⟨.inl rfl, rfl, rfl⟩
        · replace H := ifF H hb1
          refine Ok.le (σ' := ⟨[], []⟩) (.mk trivial trivial) ?_
          refine Ok.skip ?_
          refine Ok.seq ?_
          refine Ok.region (σ' := ⟨[(2, (.v (.int .i64 0))), (3, (.v (.int .i32 0)))], []⟩) ?_ ?_
          · refine OpsOk.cons rfl (.v (VOk.asg (d := (.v (.int .i64 0))) rfl rfl) rfl) ?_
            refine OpsOk.cons rfl (.v (VOk.asg (d := (.v (.int .i32 0))) rfl rfl) rfl) ?_
            exact .done (.mk ⟨.same _, .same _, trivial⟩ trivial)
          refine Ok.le (σ' := ⟨[(2, (.v (.int .i64 0))), (3, (.v (.int .i32 0)))], []⟩) (.mk ⟨.same _, .same _, trivial⟩ trivial) ?_
          refine Ok.ret ?_
          obtain rfl := Option.some.inj H
          exact ⟨.inl rfl, rfl, rfl⟩

/-! watchbill/utf.least: function 28 -/
def utf_least (a0 : Int) : Option Int := (if (a0 == 2) = true then some 128 else (if (a0 == 3) = true then some 2048 else (if (a0 == 4) = true then some 65536 else some 0)))
theorem utf_least.ok {a0 : Int} {r : Int} (H : utf_least a0 = some r) : Vx.Fn Try.prog 28 [(.v (.int .i64 a0))] [] (.v (.int .i32 r)) [] := by
  unfold utf_least at H
  refine Vx.Fn.of_ok Try.func28 rfl (Nat.le_of_ble_eq_true rfl) ?_
  refine Ok.seq ?_
  refine Ok.region (σ' := ⟨[(0, (.v (.int .i64 a0)))], []⟩) ?_ ?_
  · refine OpsOk.cons rfl (.v (VOk.asg (d := (.v (.int .i32 0))) rfl rfl) rfl) ?_
    exact .done (.mk ⟨.same _, trivial⟩ trivial)
  refine Ok.seq ?_
  refine Ok.seq ?_
  refine Ok.region (σ' := ⟨[(3, (.v (.int .i64 a0)))], []⟩) ?_ ?_
  · refine OpsOk.cons rfl (.v (VOk.mv (d := (.v (.int .i64 a0))) rfl rfl) rfl) ?_
    exact .done (.mk ⟨.same _, trivial⟩ trivial)
  refine Ok.block ?_
  refine Ok.seq ?_
  refine Ok.region (σ' := ⟨[(3, (.v (.int .i64 a0))), (4, (.v (.bool (a0 == 2))))], []⟩) ?_ ?_
  · refine OpsOk.cons rfl (.v (VOk.arith (op := .eql) (k := .i64) (a := a0) (b := 2) rfl rfl rfl rfl) rfl) ?_
    refine OpsOk.cons rfl (.v (VOk.asg (d := (.v (.bool (a0 == 2)))) rfl rfl) rfl) ?_
    exact .done (.mk ⟨.same _, .same _, trivial⟩ trivial)
  refine Ok.test (b := (a0 == 2)) rfl (fun hb3 => ?_) (fun hb3 => ?_)
  · replace H := ifT H hb3
    refine Ok.seq ?_
    refine Ok.region (σ' := ⟨[(2, (.v (.int .i32 128)))], []⟩) ?_ ?_
    · refine OpsOk.cons rfl (.v (VOk.asg (d := (.v (.int .i32 128))) rfl rfl) rfl) ?_
      exact .done (.mk ⟨.same _, trivial⟩ trivial)
    refine Ok.le (σ' := ⟨[(2, (.v (.int .i32 128)))], []⟩) (.mk ⟨.same _, trivial⟩ trivial) ?_
    refine Ok.ret ?_
    obtain rfl := Option.some.inj H
    exact ⟨.inl rfl, rfl, rfl⟩
  · replace H := ifF H hb3
    refine Ok.seq ?_
    refine Ok.region (σ' := ⟨[(3, (.v (.int .i64 a0))), (6, (.v (.bool (a0 == 3))))], []⟩) ?_ ?_
    · refine OpsOk.cons rfl (.v (VOk.arith (op := .eql) (k := .i64) (a := a0) (b := 3) rfl rfl rfl rfl) rfl) ?_
      refine OpsOk.cons rfl (.v (VOk.asg (d := (.v (.bool (a0 == 3)))) rfl rfl) rfl) ?_
      exact .done (.mk ⟨.same _, .same _, trivial⟩ trivial)
    refine Ok.test (b := (a0 == 3)) rfl (fun hb2 => ?_) (fun hb2 => ?_)
    · replace H := ifT H hb2
      refine Ok.seq ?_
      refine Ok.region (σ' := ⟨[(2, (.v (.int .i32 2048)))], []⟩) ?_ ?_
      · refine OpsOk.cons rfl (.v (VOk.asg (d := (.v (.int .i32 2048))) rfl rfl) rfl) ?_
        exact .done (.mk ⟨.same _, trivial⟩ trivial)
      refine Ok.le (σ' := ⟨[(2, (.v (.int .i32 2048)))], []⟩) (.mk ⟨.same _, trivial⟩ trivial) ?_
      refine Ok.ret ?_
      obtain rfl := Option.some.inj H
      exact ⟨.inl rfl, rfl, rfl⟩
    · replace H := ifF H hb2
      refine Ok.seq ?_
      refine Ok.region (σ' := ⟨[(8, (.v (.bool (a0 == 4))))], []⟩) ?_ ?_
      · refine OpsOk.cons rfl (.v (VOk.arith (op := .eql) (k := .i64) (a := a0) (b := 4) rfl rfl rfl rfl) rfl) ?_
        refine OpsOk.cons rfl (.v (VOk.asg (d := (.v (.bool (a0 == 4)))) rfl rfl) rfl) ?_
        exact .done (.mk ⟨.same _, trivial⟩ trivial)
      refine Ok.test (b := (a0 == 4)) rfl (fun hb1 => ?_) (fun hb1 => ?_)
      · replace H := ifT H hb1
        refine Ok.seq ?_
        refine Ok.region (σ' := ⟨[(2, (.v (.int .i32 65536)))], []⟩) ?_ ?_
        · refine OpsOk.cons rfl (.v (VOk.asg (d := (.v (.int .i32 65536))) rfl rfl) rfl) ?_
          exact .done (.mk ⟨.same _, trivial⟩ trivial)
        refine Ok.le (σ' := ⟨[(2, (.v (.int .i32 65536)))], []⟩) (.mk ⟨.same _, trivial⟩ trivial) ?_
        refine Ok.ret ?_
        obtain rfl := Option.some.inj H
        exact ⟨.inl rfl, rfl, rfl⟩
      · replace H := ifF H hb1
        refine Ok.le (σ' := ⟨[], []⟩) (.mk trivial trivial) ?_
        refine Ok.skip ?_
        refine Ok.seq ?_
        refine Ok.region (σ' := ⟨[(2, (.v (.int .i32 0)))], []⟩) ?_ ?_
        · refine OpsOk.cons rfl (.v (VOk.asg (d := (.v (.int .i32 0))) rfl rfl) rfl) ?_
          exact .done (.mk ⟨.same _, trivial⟩ trivial)
        refine Ok.le (σ' := ⟨[(2, (.v (.int .i32 0)))], []⟩) (.mk ⟨.same _, trivial⟩ trivial) ?_
        refine Ok.ret ?_
        obtain rfl := Option.some.inj H
        exact ⟨.inl rfl, rfl, rfl⟩

/-! watchbill/utf.scalar: function 29 -/
def utf_scalar (a0 : Int) : Option Bool := some (((decide (a0 ≥ 0)) && (decide (a0 < 55296))) || ((decide (a0 ≥ 57344)) && (decide (a0 ≤ 1114111))))
theorem utf_scalar.ok {a0 : Int} {r : Bool} (H : utf_scalar a0 = some r) : Vx.Fn Try.prog 29 [(.v (.int .i32 a0))] [] (.v (.bool r)) [] := by
  unfold utf_scalar at H
  refine Vx.Fn.of_ok Try.func29 rfl (Nat.le_of_ble_eq_true rfl) ?_
  refine Ok.seq ?_
  refine Ok.region (σ' := ⟨[(0, (.v (.int .i32 a0)))], []⟩) ?_ ?_
  · refine OpsOk.cons rfl (.v (VOk.asg (d := (.v (.bool false))) rfl rfl) rfl) ?_
    exact .done (.mk ⟨.same _, trivial⟩ trivial)
  refine Ok.seq ?_
  refine Ok.region (σ' := ⟨[(2, (.v (.bool (((decide (a0 ≥ 0)) && (decide (a0 < 55296))) || ((decide (a0 ≥ 57344)) && (decide (a0 ≤ 1114111)))))))], []⟩) ?_ ?_
  · refine OpsOk.cons rfl (.v (VOk.mv (d := (.v (.int .i32 a0))) rfl rfl) rfl) ?_
    refine OpsOk.cons rfl (.v (VOk.arith (op := .geq) (k := .i32) (a := a0) (b := 0) rfl rfl rfl rfl) rfl) ?_
    refine OpsOk.cons rfl (.v (VOk.mv (d := (.v (.bool (decide (a0 ≥ 0))))) rfl rfl) rfl) ?_
    refine OpsOk.consI rfl rfl rfl (.one rfl) rfl (fun hw1 => (VOk.g (VOk.mv (d := (.v (.int .i32 a0))) rfl rfl))) ?_
    refine OpsOk.consI rfl rfl rfl (.one rfl) rfl (fun hw1 => (GOk.fr (fr' := [(6, (.v (.int .i32 a0)))]) ⟨DLe.of_eq (cT hw1).symm, trivial⟩ (VOk.g (VOk.arith (op := .lss) (k := .i32) (a := a0) (b := 55296) rfl rfl rfl rfl)))) ?_
    refine OpsOk.cons rfl (.v (VOk.to (VOk.pickI (b := (decide (a0 ≥ 0))) (p := (decide (a0 < 55296))) (q := false) rfl rfl (fun hp2 => (cT (t_beq hp2))) (fun hp2 => rfl)) (pickAnd (decide (a0 ≥ 0)) (decide (a0 < 55296)))) rfl) ?_
    refine OpsOk.cons rfl (.v (VOk.mv (d := (.v (.bool ((decide (a0 ≥ 0)) && (decide (a0 < 55296)))))) rfl rfl) rfl) ?_
    refine OpsOk.consI rfl rfl rfl (.one rfl) rfl (fun hw3 => (VOk.g (VOk.mv (d := (.v (.int .i32 a0))) rfl rfl))) ?_
    refine OpsOk.consI rfl rfl rfl (.one rfl) rfl (fun hw3 => (GOk.fr (fr' := [(10, (.v (.int .i32 a0)))]) ⟨DLe.of_eq (cT hw3).symm, trivial⟩ (VOk.g (VOk.arith (op := .geq) (k := .i32) (a := a0) (b := 57344) rfl rfl rfl rfl)))) ?_
    refine OpsOk.consI rfl rfl rfl (.one rfl) rfl (fun hw3 => (GOk.fr (fr' := [(11, (.v (.bool (decide (a0 ≥ 57344)))))]) ⟨DLe.of_eq (cT hw3).symm, trivial⟩ (VOk.g (VOk.mv (d := (.v (.bool (decide (a0 ≥ 57344))))) rfl rfl)))) ?_
    refine OpsOk.consI rfl rfl rfl (.two rfl) rfl (fun hw4 => (VOk.g (VOk.mv (d := (.v (.int .i32 a0))) rfl rfl))) ?_
    refine OpsOk.consI rfl rfl rfl (.two rfl) rfl (fun hw4 => (GOk.fr (fr' := [(13, (.v (.int .i32 a0)))]) ⟨DLe.of_eq (cT hw4).symm, trivial⟩ (VOk.g (VOk.arith (op := .leq) (k := .i32) (a := a0) (b := 1114111) rfl rfl rfl rfl)))) ?_
    refine OpsOk.consI rfl rfl rfl (.one rfl) rfl (fun hw3 => (VOk.g (VOk.to (VOk.pickI (b := (decide (a0 ≥ 57344))) (p := (decide (a0 ≤ 1114111))) (q := false) rfl (cT hw3) (fun hp5 => (cT (and_i hw3 (t_beq hp5)))) (fun hp5 => rfl)) (pickAnd (decide (a0 ≥ 57344)) (decide (a0 ≤ 1114111)))))) ?_
    refine OpsOk.cons rfl (.v (VOk.to (VOk.pickI (b := ((decide (a0 ≥ 0)) && (decide (a0 < 55296)))) (p := true) (q := ((decide (a0 ≥ 57344)) && (decide (a0 ≤ 1114111)))) rfl rfl (fun hp6 => rfl) (fun hp6 => (cT (f_beq hp6)))) (pickOr ((decide (a0 ≥ 0)) && (decide (a0 < 55296))) ((decide (a0 ≥ 57344)) && (decide (a0 ≤ 1114111))))) rfl) ?_
    refine OpsOk.cons rfl (.v (VOk.asg (d := (.v (.bool (((decide (a0 ≥ 0)) && (decide (a0 < 55296))) || ((decide (a0 ≥ 57344)) && (decide (a0 ≤ 1114111))))))) rfl rfl) rfl) ?_
    exact .done (.mk ⟨.same _, trivial⟩ trivial)
  refine Ok.le (σ' := ⟨[(2, (.v (.bool (((decide (a0 ≥ 0)) && (decide (a0 < 55296))) || ((decide (a0 ≥ 57344)) && (decide (a0 ≤ 1114111)))))))], []⟩) (.mk ⟨.same _, trivial⟩ trivial) ?_
  refine Ok.ret ?_
  obtain rfl := Option.some.inj H
  exact ⟨.inl rfl, rfl, rfl⟩

/-! watchbill/utf.Rune: function 10 -/
def utf_Rune.l0 (k : Nat) (a0 : Str) (a1 : Int) (t4 : Int × Int) : Nat → Int → Int → Int → Option (Int × Int)
  | 0, _, _, _ => none
  | m + 1, x4_9, x42_11, x5_10 => (if (decide (x42_11 < ((bytesOfStr (sl a0 (IntKind.i64.wrap (a1 + 1)) (IntKind.i64.wrap (a1 + t4.1)))).length : Int))) = true then (if (0 : Int) ≤ x42_11 ∧ x42_11 < ((bytesOfStr (sl a0 (IntKind.i64.wrap (a1 + 1)) (IntKind.i64.wrap (a1 + t4.1)))).length : Int) then (if ((((rd (bytesOfStr (sl a0 (IntKind.i64.wrap (a1 + 1)) (IntKind.i64.wrap (a1 + t4.1)))) x42_11)).fdiv (2 ^ min (Int.toNat 6) (IntKind.bits .u8))) != 2) = true then some (0, 0) else utf_Rune.l0 k a0 a1 t4 m (bitOr .i32 (IntKind.i32.wrap (x4_9 * 2 ^ min (Int.toNat 6) (IntKind.bits .i32))) (IntKind.i32.wrap (bitAnd .u8 (rd (bytesOfStr (sl a0 (IntKind.i64.wrap (a1 + 1)) (IntKind.i64.wrap (a1 + t4.1)))) x42_11) 63))) (IntKind.i64.wrap (x42_11 + 1)) x5_10) else none) else ((utf_least x5_10).bind fun (t17 : Int) => (((if ((decide (x4_9 < t17)) == false) = true then utf_scalar x4_9 else some default)).bind fun (t20 : Bool) => (if ((decide (x4_9 < t17)) || (!t20)) = true then some (0, 0) else some (x4_9, x5_10)))))
def utf_Rune (k : Nat) (a0 : Str) (a1 : Int) : Option (Int × Int) := (if ((decide (a1 < 0)) || (decide (a1 ≥ (a0.length : Int)))) = true then some (0, 0) else (if (0 : Int) ≤ a1 ∧ a1 < (a0.length : Int) then ((utf_shape (bt a0 a1)).bind fun (t4 : Int × Int) => (if ((t4.1 == 0) || (decide (t4.1 > (IntKind.i64.wrap ((a0.length : Int) - a1))))) = true then some (0, 0) else (if (0 : Int) ≤ (IntKind.i64.wrap (a1 + 1)) ∧ (IntKind.i64.wrap (a1 + 1)) ≤ (IntKind.i64.wrap (a1 + t4.1)) ∧ (IntKind.i64.wrap (a1 + t4.1)) ≤ (a0.length : Int) then utf_Rune.l0 k a0 a1 t4 k t4.2 0 t4.1 else none))) else none))
theorem utf_Rune.ok {k : Nat} {a0 : Str} {a1 : Int} {r : Int × Int} (H : utf_Rune k a0 a1 = some r) : Vx.Fn Try.prog 10 [(S a0), (.v (.int .i64 a1))] [] (.tup [(.v (.int .i32 r.1)), (.v (.int .i64 r.2))]) [] := by
  unfold utf_Rune at H
  refine Vx.Fn.of_ok Try.func10 rfl (Nat.le_of_ble_eq_true rfl) ?_
  refine Ok.seq ?_
  refine Ok.region (σ' := ⟨[(0, (S a0)), (1, (.v (.int .i64 a1)))], []⟩) ?_ ?_
  · refine OpsOk.cons rfl (.v (VOk.asg (d := (.v (.int .i32 0))) rfl rfl) rfl) ?_
    refine OpsOk.cons rfl (.v (VOk.asg (d := (.v (.int .i64 0))) rfl rfl) rfl) ?_
    exact .done (.mk ⟨.same _, .same _, trivial⟩ trivial)
  refine Ok.seq ?_
  refine Ok.seq ?_
  refine Ok.region (σ' := ⟨[(0, (S a0)), (1, (.v (.int .i64 a1))), (15, (.v (.bool ((decide (a1 < 0)) || (decide (a1 ≥ (a0.length : Int)))))))], []⟩) ?_ ?_
  · refine OpsOk.cons rfl (.v (VOk.mv (d := (.v (.int .i64 a1))) rfl rfl) rfl) ?_
    refine OpsOk.cons rfl (.v (VOk.arith (op := .lss) (k := .i64) (a := a1) (b := 0) rfl rfl rfl rfl) rfl) ?_
    refine OpsOk.cons rfl (.v (VOk.mv (d := (.v (.bool (decide (a1 < 0))))) rfl rfl) rfl) ?_
    refine OpsOk.consI rfl rfl rfl (.one rfl) rfl (fun hw1 => (VOk.g (VOk.mv (d := (.v (.int .i64 a1))) rfl rfl))) ?_
    refine OpsOk.consI rfl rfl rfl (.one rfl) rfl (fun hw1 => (VOk.g (VOk.mv (d := (S a0)) rfl rfl))) ?_
    refine OpsOk.consI rfl rfl rfl (.one rfl) rfl (fun hw1 => (GOk.fr (fr' := [(12, (S a0))]) ⟨DLe.of_eq (cT hw1).symm, trivial⟩ (VOk.g (VOk.lenStr (s := a0) rfl Try.underlying9 rfl)))) ?_
    refine OpsOk.consI rfl rfl rfl (.one rfl) rfl (fun hw1 => (GOk.fr (fr' := [(11, (.v (.int .i64 a1))), (13, (.v (.int .i64 (a0.length : Int))))]) ⟨DLe.of_eq (cT hw1).symm, DLe.of_eq (cT hw1).symm, trivial⟩ (VOk.g (VOk.arith (op := .geq) (k := .i64) (a := a1) (b := (a0.length : Int)) rfl rfl rfl rfl)))) ?_
    refine OpsOk.cons rfl (.v (VOk.to (VOk.pickI (b := (decide (a1 < 0))) (p := true) (q := (decide (a1 ≥ (a0.length : Int)))) rfl rfl (fun hp2 => rfl) (fun hp2 => (cT (f_beq hp2)))) (pickOr (decide (a1 < 0)) (decide (a1 ≥ (a0.length : Int))))) rfl) ?_
    exact .done (.mk ⟨.same _, .same _, .same _, trivial⟩ trivial)
  refine Ok.test (b := ((decide (a1 < 0)) || (decide (a1 ≥ (a0.length : Int))))) rfl (fun hb26 => ?_) (fun hb26 => ?_)
  · replace H := ifT H hb26
    refine Ok.seq ?_
    refine Ok.region (σ' := ⟨[(4, (.v (.int .i32 0))), (5, (.v (.int .i64 0)))], []⟩) ?_ ?_
    · refine OpsOk.cons rfl (.v (VOk.asg (d := (.v (.int .i32 0))) rfl rfl) rfl) ?_
      refine OpsOk.cons rfl (.v (VOk.asg (d := (.v (.int .i64 0))) rfl rfl) rfl) ?_
      exact .done (.mk ⟨.same _, .same _, trivial⟩ trivial)
    refine Ok.le (σ' := ⟨[(4, (.v (.int .i32 0))), (5, (.v (.int .i64 0)))], []⟩) (.mk ⟨.same _, .same _, trivial⟩ trivial) ?_
    refine Ok.ret ?_
    obtain rfl := Option.some.inj H
    exact ⟨.inl rfl, rfl, rfl⟩
  · replace H := ifF H hb26
    refine Ok.le (σ' := ⟨[(0, (S a0)), (1, (.v (.int .i64 a1)))], []⟩) (.mk ⟨.same _, .same _, trivial⟩ trivial) ?_
    refine Ok.skip ?_
    refine Ok.seq ?_
    obtain ⟨c3, H⟩ := assertE H
    obtain ⟨t4, h5, H⟩ := bindE H
    refine Ok.region (σ' := ⟨[(0, (S a0)), (1, (.v (.int .i64 a1))), (4, (.v (.int .i32 t4.2))), (5, (.v (.int .i64 t4.1)))], []⟩) ?_ ?_
    · refine OpsOk.cons rfl (.v (VOk.mv (d := (S a0)) rfl rfl) rfl) ?_
      refine OpsOk.cons rfl (.v (VOk.mv (d := (.v (.int .i64 a1))) rfl rfl) rfl) ?_
      refine OpsOk.cons rfl (.v (VOk.indexStr (s := a0) (i := a1) rfl Try.underlying9 rfl rfl c3) rfl) ?_
      refine OpsOk.cons rfl (.g (GOk.call rfl rfl cl27 rfl (utf_shape.ok h5) rfl) rfl) ?_
      refine OpsOk.cons rfl (.v (VOk.mv (d := (.tup [(.v (.int .i64 t4.1)), (.v (.int .i32 t4.2))])) rfl rfl) rfl) ?_
      refine OpsOk.cons rfl (.v (VOk.extract (d := (.v (.int .i64 t4.1))) rfl rfl rfl) rfl) ?_
      refine OpsOk.cons rfl (.v (VOk.extract (d := (.v (.int .i32 t4.2))) rfl rfl rfl) rfl) ?_
      refine OpsOk.cons rfl (.v (VOk.asg (d := (.v (.int .i64 t4.1))) rfl rfl) rfl) ?_
      refine OpsOk.cons rfl (.v (VOk.asg (d := (.v (.int .i32 t4.2))) rfl rfl) rfl) ?_
      exact .done (.mk ⟨.same _, .same _, .same _, .same _, trivial⟩ trivial)
    refine Ok.seq ?_
    refine Ok.seq ?_
    refine Ok.region (σ' := ⟨[(0, (S a0)), (1, (.v (.int .i64 a1))), (4, (.v (.int .i32 t4.2))), (5, (.v (.int .i64 t4.1))), (32, (.v (.bool ((t4.1 == 0) || (decide (t4.1 > (IntKind.i64.wrap ((a0.length : Int) - a1))))))))], []⟩) ?_ ?_
    · refine OpsOk.cons rfl (.v (VOk.mv (d := (.v (.int .i64 t4.1))) rfl rfl) rfl) ?_
      refine OpsOk.cons rfl (.v (VOk.arith (op := .eql) (k := .i64) (a := t4.1) (b := 0) rfl rfl rfl rfl) rfl) ?_
      refine OpsOk.cons rfl (.v (VOk.mv (d := (.v (.bool (t4.1 == 0)))) rfl rfl) rfl) ?_
      refine OpsOk.consI rfl rfl rfl (.one rfl) rfl (fun hw6 => (VOk.g (VOk.mv (d := (.v (.int .i64 t4.1))) rfl rfl))) ?_
      refine OpsOk.consI rfl rfl rfl (.one rfl) rfl (fun hw6 => (VOk.g (VOk.mv (d := (S a0)) rfl rfl))) ?_
      refine OpsOk.consI rfl rfl rfl (.one rfl) rfl (fun hw6 => (GOk.fr (fr' := [(27, (S a0))]) ⟨DLe.of_eq (cT hw6).symm, trivial⟩ (VOk.g (VOk.lenStr (s := a0) rfl Try.underlying9 rfl)))) ?_
      refine OpsOk.consI rfl rfl rfl (.one rfl) rfl (fun hw6 => (VOk.g (VOk.mv (d := (.v (.int .i64 a1))) rfl rfl))) ?_
      refine OpsOk.consI rfl rfl rfl (.one rfl) rfl (fun hw6 => (GOk.fr (fr' := [(28, (.v (.int .i64 (a0.length : Int)))), (29, (.v (.int .i64 a1)))]) ⟨DLe.of_eq (cT hw6).symm, DLe.of_eq (cT hw6).symm, trivial⟩ (VOk.g (VOk.arith (op := .sub) (k := .i64) (a := (a0.length : Int)) (b := a1) rfl rfl rfl rfl)))) ?_
      refine OpsOk.consI rfl rfl rfl (.one rfl) rfl (fun hw6 => (GOk.fr (fr' := [(26, (.v (.int .i64 t4.1))), (30, (.v (.int .i64 (IntKind.i64.wrap ((a0.length : Int) - a1)))))]) ⟨DLe.of_eq (cT hw6).symm, DLe.of_eq (cT hw6).symm, trivial⟩ (VOk.g (VOk.arith (op := .gtr) (k := .i64) (a := t4.1) (b := (IntKind.i64.wrap ((a0.length : Int) - a1))) rfl rfl rfl rfl)))) ?_
      refine OpsOk.cons rfl (.v (VOk.to (VOk.pickI (b := (t4.1 == 0)) (p := true) (q := (decide (t4.1 > (IntKind.i64.wrap ((a0.length : Int) - a1))))) rfl rfl (fun hp7 => rfl) (fun hp7 => (cT (f_beq hp7)))) (pickOr (t4.1 == 0) (decide (t4.1 > (IntKind.i64.wrap ((a0.length : Int) - a1)))))) rfl) ?_
      exact .done (.mk ⟨.same _, .same _, .same _, .same _, .same _, trivial⟩ trivial)
    refine Ok.test (b := ((t4.1 == 0) || (decide (t4.1 > (IntKind.i64.wrap ((a0.length : Int) - a1)))))) rfl (fun hb25 => ?_) (fun hb25 => ?_)
    · replace H := ifT H hb25
      refine Ok.seq ?_
      refine Ok.region (σ' := ⟨[(4, (.v (.int .i32 0))), (5, (.v (.int .i64 0)))], []⟩) ?_ ?_
      · refine OpsOk.cons rfl (.v (VOk.asg (d := (.v (.int .i32 0))) rfl rfl) rfl) ?_
        refine OpsOk.cons rfl (.v (VOk.asg (d := (.v (.int .i64 0))) rfl rfl) rfl) ?_
        exact .done (.mk ⟨.same _, .same _, trivial⟩ trivial)
      refine Ok.le (σ' := ⟨[(4, (.v (.int .i32 0))), (5, (.v (.int .i64 0)))], []⟩) (.mk ⟨.same _, .same _, trivial⟩ trivial) ?_
      refine Ok.ret ?_
      obtain rfl := Option.some.inj H
      exact ⟨.inl rfl, rfl, rfl⟩
    · replace H := ifF H hb25
      refine Ok.le (σ' := ⟨[(0, (S a0)), (1, (.v (.int .i64 a1))), (4, (.v (.int .i32 t4.2))), (5, (.v (.int .i64 t4.1)))], []⟩) (.mk ⟨.same _, .same _, .same _, .same _, trivial⟩ trivial) ?_
      refine Ok.skip ?_
      refine Ok.seq ?_
      refine Ok.seq ?_
      obtain ⟨c8, H⟩ := assertE H
      refine Ok.region (σ' := ⟨[(4, (.v (.int .i32 t4.2))), (5, (.v (.int .i64 t4.1))), (40, (L 1 (eI .u8) (bytesOfStr (sl a0 (IntKind.i64.wrap (a1 + 1)) (IntKind.i64.wrap (a1 + t4.1)))))), (41, (.v (.int .i64 ((bytesOfStr (sl a0 (IntKind.i64.wrap (a1 + 1)) (IntKind.i64.wrap (a1 + t4.1)))).length : Int)))), (42, (.v (.int .i64 0)))], []⟩) ?_ ?_
      · refine OpsOk.cons rfl (.v (VOk.mv (d := (S a0)) rfl rfl) rfl) ?_
        refine OpsOk.cons rfl (.v (VOk.mv (d := (.v (.int .i64 a1))) rfl rfl) rfl) ?_
        refine OpsOk.cons rfl (.v (VOk.arith (op := .add) (k := .i64) (a := a1) (b := 1) rfl rfl rfl rfl) rfl) ?_
        refine OpsOk.cons rfl (.v (VOk.mv (d := (.v (.int .i64 a1))) rfl rfl) rfl) ?_
        refine OpsOk.cons rfl (.v (VOk.mv (d := (.v (.int .i64 t4.1))) rfl rfl) rfl) ?_
        refine OpsOk.cons rfl (.v (VOk.arith (op := .add) (k := .i64) (a := a1) (b := t4.1) rfl rfl rfl rfl) rfl) ?_
        refine OpsOk.cons rfl (.v (VOk.sliceStr (s := a0) (l := (IntKind.i64.wrap (a1 + 1))) (h := (IntKind.i64.wrap (a1 + t4.1))) rfl Try.underlying9 rfl rfl rfl c8) rfl) ?_
        refine OpsOk.cons rfl (.g (GOk.strBytes (s := (sl a0 (IntKind.i64.wrap (a1 + 1)) (IntKind.i64.wrap (a1 + t4.1)))) rfl Try.underlying9 Try.underlying41 Try.underlying5 rfl) rfl) ?_
        refine OpsOk.cons rfl (.v (VOk.lenL (e := (eI .u8)) (xs := (bytesOfStr (sl a0 (IntKind.i64.wrap (a1 + 1)) (IntKind.i64.wrap (a1 + t4.1))))) rfl Try.underlying41 rfl) rfl) ?_
        refine OpsOk.cons rfl (.v (VOk.mv (d := (.v (.int .i64 0))) rfl rfl) rfl) ?_
        exact .done (.mk ⟨.same _, .same _, .same _, .same _, .same _, trivial⟩ trivial)
      refine Ok.block ?_
      refine Ok.le (σ' := ⟨[(4, (.v (.int .i32 t4.2))), (5, (.v (.int .i64 t4.1))), (40, (L 1 (eI .u8) (bytesOfStr (sl a0 (IntKind.i64.wrap (a1 + 1)) (IntKind.i64.wrap (a1 + t4.1)))))), (41, (.v (.int .i64 ((bytesOfStr (sl a0 (IntKind.i64.wrap (a1 + 1)) (IntKind.i64.wrap (a1 + t4.1)))).length : Int)))), (42, (.v (.int .i64 0)))], []⟩) (.mk ⟨.same _, .same _, .same _, .same _, .same _, trivial⟩ trivial) ?_
      refine Ok.loop (fun m σ => ∃ (x4_9 : Int) (x42_11 : Int) (x5_10 : Int), σ = ⟨[(4, (.v (.int .i32 x4_9))), (5, (.v (.int .i64 x5_10))), (40, (L 1 (eI .u8) (bytesOfStr (sl a0 (IntKind.i64.wrap (a1 + 1)) (IntKind.i64.wrap (a1 + t4.1)))))), (41, (.v (.int .i64 ((bytesOfStr (sl a0 (IntKind.i64.wrap (a1 + 1)) (IntKind.i64.wrap (a1 + t4.1)))).length : Int)))), (42, (.v (.int .i64 x42_11)))], []⟩ ∧ utf_Rune.l0 k a0 a1 t4 m x4_9 x42_11 x5_10 = some r) k ⟨t4.2, 0, t4.1, rfl, H⟩ ?_
      rintro m σ ⟨x4_9, x42_11, x5_10, rfl, H⟩
      cases m with
      | zero => exact absurd H (by simp [utf_Rune.l0])
      | succ m =>
        unfold utf_Rune.l0 at H
        refine Ok.seq ?_
        refine Ok.region (σ' := ⟨[(4, (.v (.int .i32 x4_9))), (5, (.v (.int .i64 x5_10))), (40, (L 1 (eI .u8) (bytesOfStr (sl a0 (IntKind.i64.wrap (a1 + 1)) (IntKind.i64.wrap (a1 + t4.1)))))), (41, (.v (.int .i64 ((bytesOfStr (sl a0 (IntKind.i64.wrap (a1 + 1)) (IntKind.i64.wrap (a1 + t4.1)))).length : Int)))), (42, (.v (.int .i64 x42_11))), (43, (.v (.bool (decide (x42_11 < ((bytesOfStr (sl a0 (IntKind.i64.wrap (a1 + 1)) (IntKind.i64.wrap (a1 + t4.1)))).length : Int))))))], []⟩) ?_ ?_
        · refine OpsOk.cons rfl (.v (VOk.arith (op := .lss) (k := .i64) (a := x42_11) (b := ((bytesOfStr (sl a0 (IntKind.i64.wrap (a1 + 1)) (IntKind.i64.wrap (a1 + t4.1)))).length : Int)) rfl rfl rfl rfl) rfl) ?_
          exact .done (.mk ⟨.same _, .same _, .same _, .same _, .same _, .same _, trivial⟩ trivial)
        refine Ok.seq ?_
        refine Ok.test (b := (decide (x42_11 < ((bytesOfStr (sl a0 (IntKind.i64.wrap (a1 + 1)) (IntKind.i64.wrap (a1 + t4.1)))).length : Int)))) rfl (fun hb24 => ?_) (fun hb24 => ?_)
        · replace H := ifT H hb24
          refine Ok.le (σ' := ⟨[(4, (.v (.int .i32 x4_9))), (5, (.v (.int .i64 x5_10))), (40, (L 1 (eI .u8) (bytesOfStr (sl a0 (IntKind.i64.wrap (a1 + 1)) (IntKind.i64.wrap (a1 + t4.1)))))), (41, (.v (.int .i64 ((bytesOfStr (sl a0 (IntKind.i64.wrap (a1 + 1)) (IntKind.i64.wrap (a1 + t4.1)))).length : Int)))), (42, (.v (.int .i64 x42_11)))], []⟩) (.mk ⟨.same _, .same _, .same _, .same _, .same _, trivial⟩ trivial) ?_
          refine Ok.skip ?_
          refine Ok.seq ?_
          refine Ok.block ?_
          refine Ok.seq ?_
          obtain ⟨c15, H⟩ := assertE H
          refine Ok.region (σ' := ⟨[(4, (.v (.int .i32 x4_9))), (5, (.v (.int .i64 x5_10))), (7, (.v (.int .u8 (rd (bytesOfStr (sl a0 (IntKind.i64.wrap (a1 + 1)) (IntKind.i64.wrap (a1 + t4.1)))) x42_11)))), (40, (L 1 (eI .u8) (bytesOfStr (sl a0 (IntKind.i64.wrap (a1 + 1)) (IntKind.i64.wrap (a1 + t4.1)))))), (41, (.v (.int .i64 ((bytesOfStr (sl a0 (IntKind.i64.wrap (a1 + 1)) (IntKind.i64.wrap (a1 + t4.1)))).length : Int)))), (42, (.v (.int .i64 x42_11)))], []⟩) ?_ ?_
          · refine OpsOk.cons rfl (.v (VOk.indexL (sz := 1) (e := (eI .u8)) (xs := (bytesOfStr (sl a0 (IntKind.i64.wrap (a1 + 1)) (IntKind.i64.wrap (a1 + t4.1))))) (i := x42_11) rfl Try.underlying41 sz5 rfl rfl c15) rfl) ?_
            refine OpsOk.cons rfl (.v (VOk.loadFp (d := (.v (.int .u8 (rd (bytesOfStr (sl a0 (IntKind.i64.wrap (a1 + 1)) (IntKind.i64.wrap (a1 + t4.1)))) x42_11)))) rfl Try.underlying5 rfl rfl rfl) rfl) ?_
            refine OpsOk.cons rfl (.v (VOk.asg (d := (.v (.int .u8 (rd (bytesOfStr (sl a0 (IntKind.i64.wrap (a1 + 1)) (IntKind.i64.wrap (a1 + t4.1)))) x42_11)))) rfl rfl) rfl) ?_
            exact .done (.mk ⟨.same _, .same _, .same _, .same _, .same _, .same _, trivial⟩ trivial)
          refine Ok.seq ?_
          refine Ok.seq ?_
          refine Ok.region (σ' := ⟨[(4, (.v (.int .i32 x4_9))), (5, (.v (.int .i64 x5_10))), (7, (.v (.int .u8 (rd (bytesOfStr (sl a0 (IntKind.i64.wrap (a1 + 1)) (IntKind.i64.wrap (a1 + t4.1)))) x42_11)))), (40, (L 1 (eI .u8) (bytesOfStr (sl a0 (IntKind.i64.wrap (a1 + 1)) (IntKind.i64.wrap (a1 + t4.1)))))), (41, (.v (.int .i64 ((bytesOfStr (sl a0 (IntKind.i64.wrap (a1 + 1)) (IntKind.i64.wrap (a1 + t4.1)))).length : Int)))), (42, (.v (.int .i64 x42_11))), (48, (.v (.bool ((((rd (bytesOfStr (sl a0 (IntKind.i64.wrap (a1 + 1)) (IntKind.i64.wrap (a1 + t4.1)))) x42_11)).fdiv (2 ^ min (Int.toNat 6) (IntKind.bits .u8))) != 2))))], []⟩) ?_ ?_
          · refine OpsOk.cons rfl (.v (VOk.mv (d := (.v (.int .u8 (rd (bytesOfStr (sl a0 (IntKind.i64.wrap (a1 + 1)) (IntKind.i64.wrap (a1 + t4.1)))) x42_11)))) rfl rfl) rfl) ?_
            refine OpsOk.cons rfl (.v (VOk.shr (a := (rd (bytesOfStr (sl a0 (IntKind.i64.wrap (a1 + 1)) (IntKind.i64.wrap (a1 + t4.1)))) x42_11)) (b := 6) rfl rfl rfl (by decide)) rfl) ?_
            refine OpsOk.cons rfl (.v (VOk.arith (op := .neq) (k := .u8) (a := (((rd (bytesOfStr (sl a0 (IntKind.i64.wrap (a1 + 1)) (IntKind.i64.wrap (a1 + t4.1)))) x42_11)).fdiv (2 ^ min (Int.toNat 6) (IntKind.bits .u8)))) (b := 2) rfl rfl rfl rfl) rfl) ?_
            exact .done (.mk ⟨.same _, .same _, .same _, .same _, .same _, .same _, .same _, trivial⟩ trivial)
          refine Ok.test (b := ((((rd (bytesOfStr (sl a0 (IntKind.i64.wrap (a1 + 1)) (IntKind.i64.wrap (a1 + t4.1)))) x42_11)).fdiv (2 ^ min (Int.toNat 6) (IntKind.bits .u8))) != 2)) rfl (fun hb16 => ?_) (fun hb16 => ?_)
          · replace H := ifT H hb16
            refine Ok.seq ?_
            refine Ok.region (σ' := ⟨[(4, (.v (.int .i32 0))), (5, (.v (.int .i64 0)))], []⟩) ?_ ?_
            · refine OpsOk.cons rfl (.v (VOk.asg (d := (.v (.int .i32 0))) rfl rfl) rfl) ?_
              refine OpsOk.cons rfl (.v (VOk.asg (d := (.v (.int .i64 0))) rfl rfl) rfl) ?_
              exact .done (.mk ⟨.same _, .same _, trivial⟩ trivial)
            refine Ok.le (σ' := ⟨[(4, (.v (.int .i32 0))), (5, (.v (.int .i64 0)))], []⟩) (.mk ⟨.same _, .same _, trivial⟩ trivial) ?_
            refine Ok.ret ?_
            obtain rfl := Option.some.inj H
            exact ⟨.inl rfl, rfl, rfl⟩
          · replace H := ifF H hb16
            refine Ok.le (σ' := ⟨[(4, (.v (.int .i32 x4_9))), (5, (.v (.int .i64 x5_10))), (7, (.v (.int .u8 (rd (bytesOfStr (sl a0 (IntKind.i64.wrap (a1 + 1)) (IntKind.i64.wrap (a1 + t4.1)))) x42_11)))), (40, (L 1 (eI .u8) (bytesOfStr (sl a0 (IntKind.i64.wrap (a1 + 1)) (IntKind.i64.wrap (a1 + t4.1)))))), (41, (.v (.int .i64 ((bytesOfStr (sl a0 (IntKind.i64.wrap (a1 + 1)) (IntKind.i64.wrap (a1 + t4.1)))).length : Int)))), (42, (.v (.int .i64 x42_11)))], []⟩) (.mk ⟨.same _, .same _, .same _, .same _, .same _, .same _, trivial⟩ trivial) ?_
            refine Ok.skip ?_
            refine Ok.region (σ' := ⟨[(4, (.v (.int .i32 (bitOr .i32 (IntKind.i32.wrap (x4_9 * 2 ^ min (Int.toNat 6) (IntKind.bits .i32))) (IntKind.i32.wrap (bitAnd .u8 (rd (bytesOfStr (sl a0 (IntKind.i64.wrap (a1 + 1)) (IntKind.i64.wrap (a1 + t4.1)))) x42_11) 63)))))), (5, (.v (.int .i64 x5_10))), (40, (L 1 (eI .u8) (bytesOfStr (sl a0 (IntKind.i64.wrap (a1 + 1)) (IntKind.i64.wrap (a1 + t4.1)))))), (41, (.v (.int .i64 ((bytesOfStr (sl a0 (IntKind.i64.wrap (a1 + 1)) (IntKind.i64.wrap (a1 + t4.1)))).length : Int)))), (42, (.v (.int .i64 x42_11)))], []⟩) ?_ ?_
            · refine OpsOk.cons rfl (.v (VOk.mv (d := (.v (.int .i32 x4_9))) rfl rfl) rfl) ?_
              refine OpsOk.cons rfl (.v (VOk.shl (a := x4_9) (b := 6) rfl rfl rfl (by decide)) rfl) ?_
              refine OpsOk.cons rfl (.v (VOk.mv (d := (.v (.int .u8 (rd (bytesOfStr (sl a0 (IntKind.i64.wrap (a1 + 1)) (IntKind.i64.wrap (a1 + t4.1)))) x42_11)))) rfl rfl) rfl) ?_
              refine OpsOk.cons rfl (.v (VOk.arith (op := .and) (k := .u8) (a := (rd (bytesOfStr (sl a0 (IntKind.i64.wrap (a1 + 1)) (IntKind.i64.wrap (a1 + t4.1)))) x42_11)) (b := 63) rfl rfl rfl rfl) rfl) ?_
              refine OpsOk.cons rfl (.v (VOk.convInt (a := (bitAnd .u8 (rd (bytesOfStr (sl a0 (IntKind.i64.wrap (a1 + 1)) (IntKind.i64.wrap (a1 + t4.1)))) x42_11) 63)) rfl (by rw [Try.underlying5]; rfl) Try.underlying21 rfl) rfl) ?_
              refine OpsOk.cons rfl (.v (VOk.arith (op := .or) (k := .i32) (a := (IntKind.i32.wrap (x4_9 * 2 ^ min (Int.toNat 6) (IntKind.bits .i32)))) (b := (IntKind.i32.wrap (bitAnd .u8 (rd (bytesOfStr (sl a0 (IntKind.i64.wrap (a1 + 1)) (IntKind.i64.wrap (a1 + t4.1)))) x42_11) 63))) rfl rfl rfl rfl) rfl) ?_
              refine OpsOk.cons rfl (.v (VOk.asg (d := (.v (.int .i32 (bitOr .i32 (IntKind.i32.wrap (x4_9 * 2 ^ min (Int.toNat 6) (IntKind.bits .i32))) (IntKind.i32.wrap (bitAnd .u8 (rd (bytesOfStr (sl a0 (IntKind.i64.wrap (a1 + 1)) (IntKind.i64.wrap (a1 + t4.1)))) x42_11) 63)))))) rfl rfl) rfl) ?_
              exact .done (.mk ⟨.same _, .same _, .same _, .same _, .same _, trivial⟩ trivial)
            refine Ok.region (σ' := ⟨[(4, (.v (.int .i32 (bitOr .i32 (IntKind.i32.wrap (x4_9 * 2 ^ min (Int.toNat 6) (IntKind.bits .i32))) (IntKind.i32.wrap (bitAnd .u8 (rd (bytesOfStr (sl a0 (IntKind.i64.wrap (a1 + 1)) (IntKind.i64.wrap (a1 + t4.1)))) x42_11) 63)))))), (5, (.v (.int .i64 x5_10))), (40, (L 1 (eI .u8) (bytesOfStr (sl a0 (IntKind.i64.wrap (a1 + 1)) (IntKind.i64.wrap (a1 + t4.1)))))), (41, (.v (.int .i64 ((bytesOfStr (sl a0 (IntKind.i64.wrap (a1 + 1)) (IntKind.i64.wrap (a1 + t4.1)))).length : Int)))), (42, (.v (.int .i64 (IntKind.i64.wrap (x42_11 + 1)))))], []⟩) ?_ ?_
            · refine OpsOk.cons rfl (.v (VOk.arith (op := .add) (k := .i64) (a := x42_11) (b := 1) rfl rfl rfl rfl) rfl) ?_
              refine OpsOk.cons rfl (.v (VOk.mv (d := (.v (.int .i64 (IntKind.i64.wrap (x42_11 + 1))))) rfl rfl) rfl) ?_
              exact .done (.mk ⟨.same _, .same _, .same _, .same _, .same _, trivial⟩ trivial)
            exact ⟨m, Nat.lt_succ_self m, (bitOr .i32 (IntKind.i32.wrap (x4_9 * 2 ^ min (Int.toNat 6) (IntKind.bits .i32))) (IntKind.i32.wrap (bitAnd .u8 (rd (bytesOfStr (sl a0 (IntKind.i64.wrap (a1 + 1)) (IntKind.i64.wrap (a1 + t4.1)))) x42_11) 63))), (IntKind.i64.wrap (x42_11 + 1)), x5_10, rfl, H⟩
        · replace H := ifF H hb24
          refine Ok.le (σ' := ⟨[(4, (.v (.int .i32 x4_9))), (5, (.v (.int .i64 x5_10)))], []⟩) (.mk ⟨.same _, .same _, trivial⟩ trivial) ?_
          refine Ok.exit ?_
          refine Ok.seq ?_
          refine Ok.seq ?_
          obtain ⟨t17, h18, H⟩ := bindE H
          obtain ⟨t20, h21, H⟩ := bindE H
          refine Ok.region (σ' := ⟨[(4, (.v (.int .i32 x4_9))), (5, (.v (.int .i64 x5_10))), (64, (.v (.bool ((decide (x4_9 < t17)) || (!t20)))))], []⟩) ?_ ?_
          · refine OpsOk.cons rfl (.v (VOk.mv (d := (.v (.int .i32 x4_9))) rfl rfl) rfl) ?_
            refine OpsOk.cons rfl (.v (VOk.mv (d := (.v (.int .i64 x5_10))) rfl rfl) rfl) ?_
            refine OpsOk.cons rfl (.g (GOk.call rfl rfl cl28 rfl (utf_least.ok h18) rfl) rfl) ?_
            refine OpsOk.cons rfl (.v (VOk.arith (op := .lss) (k := .i32) (a := x4_9) (b := t17) rfl rfl rfl rfl) rfl) ?_
            refine OpsOk.cons rfl (.v (VOk.mv (d := (.v (.bool (decide (x4_9 < t17))))) rfl rfl) rfl) ?_
            refine OpsOk.consI rfl rfl rfl (.one rfl) rfl (fun hw19 => (VOk.g (VOk.mv (d := (.v (.int .i32 x4_9))) rfl rfl))) ?_
            refine OpsOk.consI rfl rfl rfl (.one rfl) rfl (fun hw19 => (GOk.fr (fr' := [(61, (.v (.int .i32 x4_9)))]) ⟨DLe.of_eq (cT hw19).symm, trivial⟩ (GOk.call rfl rfl cl29 rfl (utf_scalar.ok (ifT h21 hw19)) rfl))) ?_
            refine OpsOk.consI rfl rfl rfl (.one rfl) rfl (fun hw19 => (GOk.fr (fr' := [(62, (.v (.bool t20)))]) ⟨DLe.of_eq (cT hw19).symm, trivial⟩ (VOk.g (VOk.not (b := t20) rfl rfl)))) ?_
            refine OpsOk.cons rfl (.v (VOk.to (VOk.pickI (b := (decide (x4_9 < t17))) (p := true) (q := (!t20)) rfl rfl (fun hp22 => rfl) (fun hp22 => (cT (f_beq hp22)))) (pickOr (decide (x4_9 < t17)) (!t20))) rfl) ?_
            exact .done (.mk ⟨.same _, .same _, .same _, trivial⟩ trivial)
          refine Ok.test (b := ((decide (x4_9 < t17)) || (!t20))) rfl (fun hb23 => ?_) (fun hb23 => ?_)
          · replace H := ifT H hb23
            refine Ok.seq ?_
            refine Ok.region (σ' := ⟨[(4, (.v (.int .i32 0))), (5, (.v (.int .i64 0)))], []⟩) ?_ ?_
            · refine OpsOk.cons rfl (.v (VOk.asg (d := (.v (.int .i32 0))) rfl rfl) rfl) ?_
              refine OpsOk.cons rfl (.v (VOk.asg (d := (.v (.int .i64 0))) rfl rfl) rfl) ?_
              exact .done (.mk ⟨.same _, .same _, trivial⟩ trivial)
            refine Ok.le (σ' := ⟨[(4, (.v (.int .i32 0))), (5, (.v (.int .i64 0)))], []⟩) (.mk ⟨.same _, .same _, trivial⟩ trivial) ?_
            refine Ok.ret ?_
            obtain rfl := Option.some.inj H
            exact ⟨.inl rfl, rfl, rfl⟩
          · replace H := ifF H hb23
            refine Ok.le (σ' := ⟨[(4, (.v (.int .i32 x4_9))), (5, (.v (.int .i64 x5_10)))], []⟩) (.mk ⟨.same _, .same _, trivial⟩ trivial) ?_
            refine Ok.skip ?_
            refine Ok.seq ?_
            refine Ok.region (σ' := ⟨[(4, (.v (.int .i32 x4_9))), (5, (.v (.int .i64 x5_10)))], []⟩) ?_ ?_
            · refine OpsOk.cons rfl (.v (VOk.mv (d := (.v (.int .i32 x4_9))) rfl rfl) rfl) ?_
              refine OpsOk.cons rfl (.v (VOk.mv (d := (.v (.int .i64 x5_10))) rfl rfl) rfl) ?_
              refine OpsOk.cons rfl (.v (VOk.asg (d := (.v (.int .i32 x4_9))) rfl rfl) rfl) ?_
              refine OpsOk.cons rfl (.v (VOk.asg (d := (.v (.int .i64 x5_10))) rfl rfl) rfl) ?_
              exact .done (.mk ⟨.same _, .same _, trivial⟩ trivial)
            refine Ok.le (σ' := ⟨[(4, (.v (.int .i32 x4_9))), (5, (.v (.int .i64 x5_10)))], []⟩) (.mk ⟨.same _, .same _, trivial⟩ trivial) ?_
            refine Ok.ret ?_
            obtain rfl := Option.some.inj H
            exact ⟨.inl rfl, rfl, rfl⟩

/-! watchbill/utf.Put$1: function 33 -/
def utf_Put_1 (a0 : Int) (a1_0 : Int) : Option Int := (if (0 : Int) ≤ (IntKind.i64.wrap (6 * a0)) then some (bitOr .u8 (IntKind.u8.wrap (bitAnd .i32 ((a1_0).fdiv (2 ^ min (Int.toNat (IntKind.i64.wrap (6 * a0))) (IntKind.bits .i32))) 63)) 128) else none)
theorem utf_Put_1.ok {a0 : Int} {a1_0 : Int} {r : Int} (H : utf_Put_1 a0 a1_0 = some r) : Vx.Fn Try.prog 33 [(.v (.int .i64 a0)), (.fp [(.v (.int .i32 a1_0))] 0)] [] (.v (.int .u8 r)) [] := by
  unfold utf_Put_1 at H
  refine Vx.Fn.of_ok Try.func33 rfl (Nat.le_of_ble_eq_true rfl) ?_
  refine Ok.seq ?_
  refine Ok.region (σ' := ⟨[(0, (.v (.int .i64 a0))), (1, (.fp [(.v (.int .i32 a1_0))] 0))], []⟩) ?_ ?_
  · refine OpsOk.cons rfl (.v (VOk.asg (d := (.v (.int .u8 0))) rfl rfl) rfl) ?_
    exact .done (.mk ⟨.same _, .same _, trivial⟩ trivial)
  refine Ok.seq ?_
  obtain ⟨c1, H⟩ := assertE H
  refine Ok.region (σ' := ⟨[(3, (.v (.int .u8 (bitOr .u8 (IntKind.u8.wrap (bitAnd .i32 ((a1_0).fdiv (2 ^ min (Int.toNat (IntKind.i64.wrap (6 * a0))) (IntKind.bits .i32))) 63)) 128))))], []⟩) ?_ ?_
  · refine OpsOk.cons rfl (.v (VOk.loadFp (d := (.v (.int .i32 a1_0))) rfl Try.underlying21 rfl rfl rfl) rfl) ?_
    refine OpsOk.cons rfl (.v (VOk.mv (d := (.v (.int .i64 a0))) rfl rfl) rfl) ?_
    refine OpsOk.cons rfl (.v (VOk.arith (op := .mul) (k := .i64) (a := 6) (b := a0) rfl rfl rfl rfl) rfl) ?_
    refine OpsOk.cons rfl (.v (VOk.shr (a := a1_0) (b := (IntKind.i64.wrap (6 * a0))) rfl rfl rfl c1) rfl) ?_
    refine OpsOk.cons rfl (.v (VOk.arith (op := .and) (k := .i32) (a := ((a1_0).fdiv (2 ^ min (Int.toNat (IntKind.i64.wrap (6 * a0))) (IntKind.bits .i32)))) (b := 63) rfl rfl rfl rfl) rfl) ?_
    refine OpsOk.cons rfl (.v (VOk.convInt (a := (bitAnd .i32 ((a1_0).fdiv (2 ^ min (Int.toNat (IntKind.i64.wrap (6 * a0))) (IntKind.bits .i32))) 63)) rfl (by rw [Try.underlying21]; rfl) Try.underlying5 rfl) rfl) ?_
    refine OpsOk.cons rfl (.v (VOk.arith (op := .or) (k := .u8) (a := (IntKind.u8.wrap (bitAnd .i32 ((a1_0).fdiv (2 ^ min (Int.toNat (IntKind.i64.wrap (6 * a0))) (IntKind.bits .i32))) 63))) (b := 128) rfl rfl rfl rfl) rfl) ?_
    refine OpsOk.cons rfl (.v (VOk.asg (d := (.v (.int .u8 (bitOr .u8 (IntKind.u8.wrap (bitAnd .i32 ((a1_0).fdiv (2 ^ min (Int.toNat (IntKind.i64.wrap (6 * a0))) (IntKind.bits .i32))) 63)) 128)))) rfl rfl) rfl) ?_
    exact .done (.mk ⟨.same _, trivial⟩ trivial)
  refine Ok.le (σ' := ⟨[(3, (.v (.int .u8 (bitOr .u8 (IntKind.u8.wrap (bitAnd .i32 ((a1_0).fdiv (2 ^ min (Int.toNat (IntKind.i64.wrap (6 * a0))) (IntKind.bits .i32))) 63)) 128))))], []⟩) (.mk ⟨.same _, trivial⟩ trivial) ?_
  refine Ok.ret ?_
  obtain rfl := Option.some.inj H
  exact ⟨.inl rfl, rfl, rfl⟩

/-! watchbill/utf.Put: function 12 -/
def utf_Put (a0 : Int) : Option Str := ((utf_scalar a0).bind fun (t1 : Bool) => (if (!t1) = true then some ([] : Str) else (if (decide (a0 < 128)) = true then some (strOfBytes ([(IntKind.u8.wrap a0)] : List Int)) else (if (decide (a0 < 2048)) = true then ((utf_Put_1 0 a0).bind fun (t3 : Int) => some (strOfBytes ([(bitOr .u8 (IntKind.u8.wrap ((a0).fdiv (2 ^ min (Int.toNat 6) (IntKind.bits .i32)))) 192), t3] : List Int))) else (if (decide (a0 < 65536)) = true then ((utf_Put_1 1 a0).bind fun (t5 : Int) => ((utf_Put_1 0 a0).bind fun (t7 : Int) => some (strOfBytes ([(bitOr .u8 (IntKind.u8.wrap ((a0).fdiv (2 ^ min (Int.toNat 12) (IntKind.bits .i32)))) 224), t5, t7] : List Int)))) else ((utf_Put_1 2 a0).bind fun (t9 : Int) => ((utf_Put_1 1 a0).bind fun (t11 : Int) => ((utf_Put_1 0 a0).bind fun (t13 : Int) => some (strOfBytes ([(bitOr .u8 (IntKind.u8.wrap ((a0).fdiv (2 ^ min (Int.toNat 18) (IntKind.bits .i32)))) 240), t9, t11, t13] : List Int))))))))))
theorem utf_Put.ok {a0 : Int} {r : Str} (H : utf_Put a0 = some r) : Vx.Fn Try.prog 12 [(.v (.int .i32 a0))] [] (S r) [] := by
  unfold utf_Put at H
  refine Vx.Fn.of_ok Try.func12 rfl (Nat.le_of_ble_eq_true rfl) ?_
  refine Ok.seq ?_
  refine Ok.region (σ' := ⟨[(1, (.bref 1 0))], [(1, (.box true [(.v (.int .i32 a0))]))]⟩) ?_ ?_
  · refine OpsOk.cons rfl (OpOk.box 1 (cells := [(.v (.int .i32 a0))]) rfl rfl rfl rfl) ?_
    refine OpsOk.cons rfl (.v (VOk.asg (d := (S ([] : Str))) rfl rfl) rfl) ?_
    exact .done (.mk ⟨.same _, trivial⟩ ⟨.same _, trivial⟩)
  refine Ok.seq ?_
  refine Ok.frzBox 1 rfl rfl ?_
  refine Ok.region (σ' := ⟨[(1, (.fp [(.v (.int .i32 a0))] 0)), (3, (.clo 33 [(.fp [(.v (.int .i32 a0))] 0)]))], []⟩) ?_ ?_
  · refine OpsOk.cons rfl (.v (VOk.makeFunc (ds := [(.fp [(.v (.int .i32 a0))] 0)]) rfl rfl) rfl) ?_
    refine OpsOk.cons rfl (.v (VOk.asg (d := (.clo 33 [(.fp [(.v (.int .i32 a0))] 0)])) rfl rfl) rfl) ?_
    exact .done (.mk ⟨.same _, .same _, trivial⟩ trivial)
  refine Ok.seq ?_
  refine Ok.block ?_
  refine Ok.seq ?_
  obtain ⟨t1, h2, H⟩ := bindE H
  refine Ok.region (σ' := ⟨[(1, (.fp [(.v (.int .i32 a0))] 0)), (3, (.clo 33 [(.fp [(.v (.int .i32 a0))] 0)])), (5, (.v (.bool (!t1))))], []⟩) ?_ ?_
  · refine OpsOk.cons rfl (.v (VOk.loadFp (d := (.v (.int .i32 a0))) rfl Try.underlying21 rfl rfl rfl) rfl) ?_
    refine OpsOk.cons rfl (.g (GOk.call rfl rfl cl29 rfl (utf_scalar.ok h2) rfl) rfl) ?_
    refine OpsOk.cons rfl (.v (VOk.not (b := t1) rfl rfl) rfl) ?_
    refine OpsOk.cons rfl (.v (VOk.asg (d := (.v (.bool (!t1)))) rfl rfl) rfl) ?_
    exact .done (.mk ⟨.same _, .same _, .same _, trivial⟩ trivial)
  refine Ok.test (b := (!t1)) rfl (fun hb18 => ?_) (fun hb18 => ?_)
  · replace H := ifT H hb18
    refine Ok.seq ?_
    refine Ok.region (σ' := ⟨[(2, (S ([] : Str)))], []⟩) ?_ ?_
    · refine OpsOk.cons rfl (.v (VOk.asg (d := (S ([] : Str))) rfl rfl) rfl) ?_
      exact .done (.mk ⟨.same _, trivial⟩ trivial)
    refine Ok.le (σ' := ⟨[(2, (S ([] : Str)))], []⟩) (.mk ⟨.same _, trivial⟩ trivial) ?_
    refine Ok.ret ?_
    obtain rfl := Option.some.inj H
    exact ⟨.inl rfl, rfl, rfl⟩
  · replace H := ifF H hb18
    refine Ok.seq ?_
    refine Ok.region (σ' := ⟨[(1, (.fp [(.v (.int .i32 a0))] 0)), (3, (.clo 33 [(.fp [(.v (.int .i32 a0))] 0)])), (9, (.v (.bool (decide (a0 < 128)))))], []⟩) ?_ ?_
    · refine OpsOk.cons rfl (.v (VOk.loadFp (d := (.v (.int .i32 a0))) rfl Try.underlying21 rfl rfl rfl) rfl) ?_
      refine OpsOk.cons rfl (.v (VOk.arith (op := .lss) (k := .i32) (a := a0) (b := 128) rfl rfl rfl rfl) rfl) ?_
      refine OpsOk.cons rfl (.v (VOk.asg (d := (.v (.bool (decide (a0 < 128))))) rfl rfl) rfl) ?_
      exact .done (.mk ⟨.same _, .same _, .same _, trivial⟩ trivial)
    refine Ok.test (b := (decide (a0 < 128))) rfl (fun hb17 => ?_) (fun hb17 => ?_)
    · replace H := ifT H hb17
      refine Ok.seq ?_
      refine Ok.region (σ' := ⟨[(2, (S (strOfBytes ([(IntKind.u8.wrap a0)] : List Int))))], []⟩) ?_ ?_
      · refine OpsOk.cons rfl (.v (VOk.loadFp (d := (.v (.int .i32 a0))) rfl Try.underlying21 rfl rfl rfl) rfl) ?_
        refine OpsOk.cons rfl (.v (VOk.convInt (a := a0) rfl (by rw [Try.underlying21]; rfl) Try.underlying5 rfl) rfl) ?_
        refine OpsOk.cons rfl (.g (GOk.to (d' := (L 1 (eI .u8) ([(IntKind.u8.wrap a0)] : List Int))) (GOk.lit rfl Try.underlying41 sz5 zs5 rfl rfl rfl rfl) rfl) rfl) ?_
        refine OpsOk.cons rfl (.v (VOk.bytesStr (xs := ([(IntKind.u8.wrap a0)] : List Int)) rfl Try.underlying41 Try.underlying5 Try.underlying9 rfl) rfl) ?_
        refine OpsOk.cons rfl (.v (VOk.asg (d := (S (strOfBytes ([(IntKind.u8.wrap a0)] : List Int)))) rfl rfl) rfl) ?_
        exact .done (.mk ⟨.same _, trivial⟩ trivial)
      refine Ok.le (σ' := ⟨[(2, (S (strOfBytes ([(IntKind.u8.wrap a0)] : List Int))))], []⟩) (.mk ⟨.same _, trivial⟩ trivial) ?_
      refine Ok.ret ?_
      obtain rfl := Option.some.inj H
      exact ⟨.inl rfl, rfl, rfl⟩
    · replace H := ifF H hb17
      refine Ok.seq ?_
      refine Ok.region (σ' := ⟨[(1, (.fp [(.v (.int .i32 a0))] 0)), (3, (.clo 33 [(.fp [(.v (.int .i32 a0))] 0)])), (16, (.v (.bool (decide (a0 < 2048)))))], []⟩) ?_ ?_
      · refine OpsOk.cons rfl (.v (VOk.loadFp (d := (.v (.int .i32 a0))) rfl Try.underlying21 rfl rfl rfl) rfl) ?_
        refine OpsOk.cons rfl (.v (VOk.arith (op := .lss) (k := .i32) (a := a0) (b := 2048) rfl rfl rfl rfl) rfl) ?_
        refine OpsOk.cons rfl (.v (VOk.asg (d := (.v (.bool (decide (a0 < 2048))))) rfl rfl) rfl) ?_
        exact .done (.mk ⟨.same _, .same _, .same _, trivial⟩ trivial)
      refine Ok.test (b := (decide (a0 < 2048))) rfl (fun hb16 => ?_) (fun hb16 => ?_)
      · replace H := ifT H hb16
        refine Ok.seq ?_
        obtain ⟨t3, h4, H⟩ := bindE H
        refine Ok.drawE (σ' := ⟨[(2, (S (strOfBytes ([(bitOr .u8 (IntKind.u8.wrap ((a0).fdiv (2 ^ min (Int.toNat 6) (IntKind.bits .i32)))) 192), t3] : List Int))))], []⟩) [⟨true, [(1, (.fp [(.v (.int .i32 a0))] 0))], (.v (.int .i32 a0))⟩, ⟨true, [(19, (.v (.int .i32 a0)))], (.v (.int .i32 ((a0).fdiv (2 ^ min (Int.toNat 6) (IntKind.bits .i32)))))⟩, ⟨true, [(20, (.v (.int .i32 ((a0).fdiv (2 ^ min (Int.toNat 6) (IntKind.bits .i32))))))], (.v (.int .u8 (IntKind.u8.wrap ((a0).fdiv (2 ^ min (Int.toNat 6) (IntKind.bits .i32))))))⟩, ⟨true, [(21, (.v (.int .u8 (IntKind.u8.wrap ((a0).fdiv (2 ^ min (Int.toNat 6) (IntKind.bits .i32)))))))], (.v (.int .u8 (bitOr .u8 (IntKind.u8.wrap ((a0).fdiv (2 ^ min (Int.toNat 6) (IntKind.bits .i32)))) 192)))⟩, ⟨true, [(3, (.clo 33 [(.fp [(.v (.int .i32 a0))] 0)]))], (.clo 33 [(.fp [(.v (.int .i32 a0))] 0)])⟩, ⟨true, [(23, (.clo 33 [(.fp [(.v (.int .i32 a0))] 0)]))], (.v (.int .u8 t3))⟩, ⟨true, [(22, (.v (.int .u8 (bitOr .u8 (IntKind.u8.wrap ((a0).fdiv (2 ^ min (Int.toNat 6) (IntKind.bits .i32)))) 192)))), (24, (.v (.int .u8 t3)))], (L 1 (eI .u8) ([(bitOr .u8 (IntKind.u8.wrap ((a0).fdiv (2 ^ min (Int.toNat 6) (IntKind.bits .i32)))) 192), t3] : List Int))⟩, ⟨true, [(25, (L 1 (eI .u8) ([(bitOr .u8 (IntKind.u8.wrap ((a0).fdiv (2 ^ min (Int.toNat 6) (IntKind.bits .i32)))) 192), t3] : List Int)))], (S (strOfBytes ([(bitOr .u8 (IntKind.u8.wrap ((a0).fdiv (2 ^ min (Int.toNat 6) (IntKind.bits .i32)))) 192), t3] : List Int)))⟩, ⟨true, [(26, (S (strOfBytes ([(bitOr .u8 (IntKind.u8.wrap ((a0).fdiv (2 ^ min (Int.toNat 6) (IntKind.bits .i32)))) 192), t3] : List Int))))], (S (strOfBytes ([(bitOr .u8 (IntKind.u8.wrap ((a0).fdiv (2 ^ min (Int.toNat 6) (IntKind.bits .i32)))) 192), t3] : List Int)))⟩] [[], [0], [1], [2], [], [4], [3, 5], [6], [7]] mixed (by kernel_rfl) ?_ ?_
        · refine TxtE.cons rfl ⟨.same _, trivial⟩ rfl (VOk.g (VOk.loadFp (d := (.v (.int .i32 a0))) rfl Try.underlying21 rfl rfl rfl)) ?_
          refine TxtE.cons rfl ⟨.same _, trivial⟩ rfl (VOk.g (VOk.shr (a := a0) (b := 6) rfl rfl rfl (by decide))) ?_
          refine TxtE.cons rfl ⟨.same _, trivial⟩ rfl (VOk.g (VOk.convInt (a := ((a0).fdiv (2 ^ min (Int.toNat 6) (IntKind.bits .i32)))) rfl (by rw [Try.underlying21]; rfl) Try.underlying5 rfl)) ?_
          refine TxtE.cons rfl ⟨.same _, trivial⟩ rfl (VOk.g (VOk.arith (op := .or) (k := .u8) (a := (IntKind.u8.wrap ((a0).fdiv (2 ^ min (Int.toNat 6) (IntKind.bits .i32))))) (b := 192) rfl rfl rfl rfl)) ?_
          refine TxtE.cons rfl ⟨.same _, trivial⟩ rfl (VOk.g (VOk.mv (d := (.clo 33 [(.fp [(.v (.int .i32 a0))] 0)])) rfl rfl)) ?_
          refine TxtE.cons rfl ⟨.same _, trivial⟩ rfl (GOk.call rfl rfl cl33 rfl (utf_Put_1.ok h4) rfl) ?_
          refine TxtE.cons rfl ⟨.same _, .same _, trivial⟩ rfl (GOk.to (d' := (L 1 (eI .u8) ([(bitOr .u8 (IntKind.u8.wrap ((a0).fdiv (2 ^ min (Int.toNat 6) (IntKind.bits .i32)))) 192), t3] : List Int))) (GOk.lit rfl Try.underlying41 sz5 zs5 rfl rfl rfl rfl) rfl) ?_
          refine TxtE.cons rfl ⟨.same _, trivial⟩ rfl (VOk.g (VOk.bytesStr (xs := ([(bitOr .u8 (IntKind.u8.wrap ((a0).fdiv (2 ^ min (Int.toNat 6) (IntKind.bits .i32)))) 192), t3] : List Int)) rfl Try.underlying41 Try.underlying5 Try.underlying9 rfl)) ?_
          refine TxtE.cons rfl ⟨.same _, trivial⟩ rfl (VOk.g (VOk.asg (d := (S (strOfBytes ([(bitOr .u8 (IntKind.u8.wrap ((a0).fdiv (2 ^ min (Int.toNat 6) (IntKind.bits .i32)))) 192), t3] : List Int)))) rfl rfl)) ?_
          exact .done (.mk ⟨.same _, trivial⟩ trivial)
        refine Ok.le (σ' := ⟨[(2, (S (strOfBytes ([(bitOr .u8 (IntKind.u8.wrap ((a0).fdiv (2 ^ min (Int.toNat 6) (IntKind.bits .i32)))) 192), t3] : List Int))))], []⟩) (.mk ⟨.same _, trivial⟩ trivial) ?_
        refine Ok.ret ?_
        obtain rfl := Option.some.inj H
        exact ⟨.inl rfl, rfl, rfl⟩
      · replace H := ifF H hb16
        refine Ok.seq ?_
        refine Ok.region (σ' := ⟨[(1, (.fp [(.v (.int .i32 a0))] 0)), (3, (.clo 33 [(.fp [(.v (.int .i32 a0))] 0)])), (27, (.v (.bool (decide (a0 < 65536)))))], []⟩) ?_ ?_
        · refine OpsOk.cons rfl (.v (VOk.loadFp (d := (.v (.int .i32 a0))) rfl Try.underlying21 rfl rfl rfl) rfl) ?_
          refine OpsOk.cons rfl (.v (VOk.arith (op := .lss) (k := .i32) (a := a0) (b := 65536) rfl rfl rfl rfl) rfl) ?_
          refine OpsOk.cons rfl (.v (VOk.asg (d := (.v (.bool (decide (a0 < 65536))))) rfl rfl) rfl) ?_
          exact .done (.mk ⟨.same _, .same _, .same _, trivial⟩ trivial)
        refine Ok.test (b := (decide (a0 < 65536))) rfl (fun hb15 => ?_) (fun hb15 => ?_)
        · replace H := ifT H hb15
          refine Ok.seq ?_
          obtain ⟨t5, h6, H⟩ := bindE H
          obtain ⟨t7, h8, H⟩ := bindE H
          refine Ok.drawE (σ' := ⟨[(2, (S (strOfBytes ([(bitOr .u8 (IntKind.u8.wrap ((a0).fdiv (2 ^ min (Int.toNat 12) (IntKind.bits .i32)))) 224), t5, t7] : List Int))))], []⟩) [⟨true, [(1, (.fp [(.v (.int .i32 a0))] 0))], (.v (.int .i32 a0))⟩, ⟨true, [(30, (.v (.int .i32 a0)))], (.v (.int .i32 ((a0).fdiv (2 ^ min (Int.toNat 12) (IntKind.bits .i32)))))⟩, ⟨true, [(31, (.v (.int .i32 ((a0).fdiv (2 ^ min (Int.toNat 12) (IntKind.bits .i32))))))], (.v (.int .u8 (IntKind.u8.wrap ((a0).fdiv (2 ^ min (Int.toNat 12) (IntKind.bits .i32))))))⟩, ⟨true, [(32, (.v (.int .u8 (IntKind.u8.wrap ((a0).fdiv (2 ^ min (Int.toNat 12) (IntKind.bits .i32)))))))], (.v (.int .u8 (bitOr .u8 (IntKind.u8.wrap ((a0).fdiv (2 ^ min (Int.toNat 12) (IntKind.bits .i32)))) 224)))⟩, ⟨true, [(3, (.clo 33 [(.fp [(.v (.int .i32 a0))] 0)]))], (.clo 33 [(.fp [(.v (.int .i32 a0))] 0)])⟩, ⟨true, [(34, (.clo 33 [(.fp [(.v (.int .i32 a0))] 0)]))], (.v (.int .u8 t5))⟩, ⟨true, [(3, (.clo 33 [(.fp [(.v (.int .i32 a0))] 0)]))], (.clo 33 [(.fp [(.v (.int .i32 a0))] 0)])⟩, ⟨true, [(36, (.clo 33 [(.fp [(.v (.int .i32 a0))] 0)]))], (.v (.int .u8 t7))⟩, ⟨true, [(33, (.v (.int .u8 (bitOr .u8 (IntKind.u8.wrap ((a0).fdiv (2 ^ min (Int.toNat 12) (IntKind.bits .i32)))) 224)))), (35, (.v (.int .u8 t5))), (37, (.v (.int .u8 t7)))], (L 1 (eI .u8) ([(bitOr .u8 (IntKind.u8.wrap ((a0).fdiv (2 ^ min (Int.toNat 12) (IntKind.bits .i32)))) 224), t5, t7] : List Int))⟩, ⟨true, [(38, (L 1 (eI .u8) ([(bitOr .u8 (IntKind.u8.wrap ((a0).fdiv (2 ^ min (Int.toNat 12) (IntKind.bits .i32)))) 224), t5, t7] : List Int)))], (S (strOfBytes ([(bitOr .u8 (IntKind.u8.wrap ((a0).fdiv (2 ^ min (Int.toNat 12) (IntKind.bits .i32)))) 224), t5, t7] : List Int)))⟩, ⟨true, [(39, (S (strOfBytes ([(bitOr .u8 (IntKind.u8.wrap ((a0).fdiv (2 ^ min (Int.toNat 12) (IntKind.bits .i32)))) 224), t5, t7] : List Int))))], (S (strOfBytes ([(bitOr .u8 (IntKind.u8.wrap ((a0).fdiv (2 ^ min (Int.toNat 12) (IntKind.bits .i32)))) 224), t5, t7] : List Int)))⟩] [[], [0], [1], [2], [], [4], [], [6], [3, 5, 7], [8], [9]] mixed (by kernel_rfl) ?_ ?_
          · refine TxtE.cons rfl ⟨.same _, trivial⟩ rfl (VOk.g (VOk.loadFp (d := (.v (.int .i32 a0))) rfl Try.underlying21 rfl rfl rfl)) ?_
            refine TxtE.cons rfl ⟨.same _, trivial⟩ rfl (VOk.g (VOk.shr (a := a0) (b := 12) rfl rfl rfl (by decide))) ?_
            refine TxtE.cons rfl ⟨.same _, trivial⟩ rfl (VOk.g (VOk.convInt (a := ((a0).fdiv (2 ^ min (Int.toNat 12) (IntKind.bits .i32)))) rfl (by rw [Try.underlying21]; rfl) Try.underlying5 rfl)) ?_
            refine TxtE.cons rfl ⟨.same _, trivial⟩ rfl (VOk.g (VOk.arith (op := .or) (k := .u8) (a := (IntKind.u8.wrap ((a0).fdiv (2 ^ min (Int.toNat 12) (IntKind.bits .i32))))) (b := 224) rfl rfl rfl rfl)) ?_
            refine TxtE.cons rfl ⟨.same _, trivial⟩ rfl (VOk.g (VOk.mv (d := (.clo 33 [(.fp [(.v (.int .i32 a0))] 0)])) rfl rfl)) ?_
            refine TxtE.cons rfl ⟨.same _, trivial⟩ rfl (GOk.call rfl rfl cl33 rfl (utf_Put_1.ok h6) rfl) ?_
            refine TxtE.cons rfl ⟨.same _, trivial⟩ rfl (VOk.g (VOk.mv (d := (.clo 33 [(.fp [(.v (.int .i32 a0))] 0)])) rfl rfl)) ?_
            refine TxtE.cons rfl ⟨.same _, trivial⟩ rfl (GOk.call rfl rfl cl33 rfl (utf_Put_1.ok h8) rfl) ?_
            refine TxtE.cons rfl ⟨.same _, .same _, .same _, trivial⟩ rfl (GOk.to (d' := (L 1 (eI .u8) ([(bitOr .u8 (IntKind.u8.wrap ((a0).fdiv (2 ^ min (Int.toNat 12) (IntKind.bits .i32)))) 224), t5, t7] : List Int))) (GOk.lit rfl Try.underlying41 sz5 zs5 rfl rfl rfl rfl) rfl) ?_
            refine TxtE.cons rfl ⟨.same _, trivial⟩ rfl (VOk.g (VOk.bytesStr (xs := ([(bitOr .u8 (IntKind.u8.wrap ((a0).fdiv (2 ^ min (Int.toNat 12) (IntKind.bits .i32)))) 224), t5, t7] : List Int)) rfl Try.underlying41 Try.underlying5 Try.underlying9 rfl)) ?_
            refine TxtE.cons rfl ⟨.same _, trivial⟩ rfl (VOk.g (VOk.asg (d := (S (strOfBytes ([(bitOr .u8 (IntKind.u8.wrap ((a0).fdiv (2 ^ min (Int.toNat 12) (IntKind.bits .i32)))) 224), t5, t7] : List Int)))) rfl rfl)) ?_
            exact .done (.mk ⟨.same _, trivial⟩ trivial)
          refine Ok.le (σ' := ⟨[(2, (S (strOfBytes ([(bitOr .u8 (IntKind.u8.wrap ((a0).fdiv (2 ^ min (Int.toNat 12) (IntKind.bits .i32)))) 224), t5, t7] : List Int))))], []⟩) (.mk ⟨.same _, trivial⟩ trivial) ?_
          refine Ok.ret ?_
          obtain rfl := Option.some.inj H
          exact ⟨.inl rfl, rfl, rfl⟩
        · replace H := ifF H hb15
          refine Ok.le (σ' := ⟨[(1, (.fp [(.v (.int .i32 a0))] 0)), (3, (.clo 33 [(.fp [(.v (.int .i32 a0))] 0)]))], []⟩) (.mk ⟨.same _, .same _, trivial⟩ trivial) ?_
          refine Ok.skip ?_
          refine Ok.seq ?_
          obtain ⟨t9, h10, H⟩ := bindE H
          obtain ⟨t11, h12, H⟩ := bindE H
          obtain ⟨t13, h14, H⟩ := bindE H
          refine Ok.drawE (σ' := ⟨[(2, (S (strOfBytes ([(bitOr .u8 (IntKind.u8.wrap ((a0).fdiv (2 ^ min (Int.toNat 18) (IntKind.bits .i32)))) 240), t9, t11, t13] : List Int))))], []⟩) [⟨true, [(1, (.fp [(.v (.int .i32 a0))] 0))], (.v (.int .i32 a0))⟩, ⟨true, [(40, (.v (.int .i32 a0)))], (.v (.int .i32 ((a0).fdiv (2 ^ min (Int.toNat 18) (IntKind.bits .i32)))))⟩, ⟨true, [(41, (.v (.int .i32 ((a0).fdiv (2 ^ min (Int.toNat 18) (IntKind.bits .i32))))))], (.v (.int .u8 (IntKind.u8.wrap ((a0).fdiv (2 ^ min (Int.toNat 18) (IntKind.bits .i32))))))⟩, ⟨true, [(42, (.v (.int .u8 (IntKind.u8.wrap ((a0).fdiv (2 ^ min (Int.toNat 18) (IntKind.bits .i32)))))))], (.v (.int .u8 (bitOr .u8 (IntKind.u8.wrap ((a0).fdiv (2 ^ min (Int.toNat 18) (IntKind.bits .i32)))) 240)))⟩, ⟨true, [(3, (.clo 33 [(.fp [(.v (.int .i32 a0))] 0)]))], (.clo 33 [(.fp [(.v (.int .i32 a0))] 0)])⟩, ⟨true, [(44, (.clo 33 [(.fp [(.v (.int .i32 a0))] 0)]))], (.v (.int .u8 t9))⟩, ⟨true, [(3, (.clo 33 [(.fp [(.v (.int .i32 a0))] 0)]))], (.clo 33 [(.fp [(.v (.int .i32 a0))] 0)])⟩, ⟨true, [(46, (.clo 33 [(.fp [(.v (.int .i32 a0))] 0)]))], (.v (.int .u8 t11))⟩, ⟨true, [(3, (.clo 33 [(.fp [(.v (.int .i32 a0))] 0)]))], (.clo 33 [(.fp [(.v (.int .i32 a0))] 0)])⟩, ⟨true, [(48, (.clo 33 [(.fp [(.v (.int .i32 a0))] 0)]))], (.v (.int .u8 t13))⟩, ⟨true, [(43, (.v (.int .u8 (bitOr .u8 (IntKind.u8.wrap ((a0).fdiv (2 ^ min (Int.toNat 18) (IntKind.bits .i32)))) 240)))), (45, (.v (.int .u8 t9))), (47, (.v (.int .u8 t11))), (49, (.v (.int .u8 t13)))], (L 1 (eI .u8) ([(bitOr .u8 (IntKind.u8.wrap ((a0).fdiv (2 ^ min (Int.toNat 18) (IntKind.bits .i32)))) 240), t9, t11, t13] : List Int))⟩, ⟨true, [(50, (L 1 (eI .u8) ([(bitOr .u8 (IntKind.u8.wrap ((a0).fdiv (2 ^ min (Int.toNat 18) (IntKind.bits .i32)))) 240), t9, t11, t13] : List Int)))], (S (strOfBytes ([(bitOr .u8 (IntKind.u8.wrap ((a0).fdiv (2 ^ min (Int.toNat 18) (IntKind.bits .i32)))) 240), t9, t11, t13] : List Int)))⟩, ⟨true, [(51, (S (strOfBytes ([(bitOr .u8 (IntKind.u8.wrap ((a0).fdiv (2 ^ min (Int.toNat 18) (IntKind.bits .i32)))) 240), t9, t11, t13] : List Int))))], (S (strOfBytes ([(bitOr .u8 (IntKind.u8.wrap ((a0).fdiv (2 ^ min (Int.toNat 18) (IntKind.bits .i32)))) 240), t9, t11, t13] : List Int)))⟩] [[], [0], [1], [2], [], [4], [], [6], [], [8], [3, 5, 7, 9], [10], [11]] mixed (by kernel_rfl) ?_ ?_
          · refine TxtE.cons rfl ⟨.same _, trivial⟩ rfl (VOk.g (VOk.loadFp (d := (.v (.int .i32 a0))) rfl Try.underlying21 rfl rfl rfl)) ?_
            refine TxtE.cons rfl ⟨.same _, trivial⟩ rfl (VOk.g (VOk.shr (a := a0) (b := 18) rfl rfl rfl (by decide))) ?_
            refine TxtE.cons rfl ⟨.same _, trivial⟩ rfl (VOk.g (VOk.convInt (a := ((a0).fdiv (2 ^ min (Int.toNat 18) (IntKind.bits .i32)))) rfl (by rw [Try.underlying21]; rfl) Try.underlying5 rfl)) ?_
            refine TxtE.cons rfl ⟨.same _, trivial⟩ rfl (VOk.g (VOk.arith (op := .or) (k := .u8) (a := (IntKind.u8.wrap ((a0).fdiv (2 ^ min (Int.toNat 18) (IntKind.bits .i32))))) (b := 240) rfl rfl rfl rfl)) ?_
            refine TxtE.cons rfl ⟨.same _, trivial⟩ rfl (VOk.g (VOk.mv (d := (.clo 33 [(.fp [(.v (.int .i32 a0))] 0)])) rfl rfl)) ?_
            refine TxtE.cons rfl ⟨.same _, trivial⟩ rfl (GOk.call rfl rfl cl33 rfl (utf_Put_1.ok h10) rfl) ?_
            refine TxtE.cons rfl ⟨.same _, trivial⟩ rfl (VOk.g (VOk.mv (d := (.clo 33 [(.fp [(.v (.int .i32 a0))] 0)])) rfl rfl)) ?_
            refine TxtE.cons rfl ⟨.same _, trivial⟩ rfl (GOk.call rfl rfl cl33 rfl (utf_Put_1.ok h12) rfl) ?_
            refine TxtE.cons rfl ⟨.same _, trivial⟩ rfl (VOk.g (VOk.mv (d := (.clo 33 [(.fp [(.v (.int .i32 a0))] 0)])) rfl rfl)) ?_
            refine TxtE.cons rfl ⟨.same _, trivial⟩ rfl (GOk.call rfl rfl cl33 rfl (utf_Put_1.ok h14) rfl) ?_
            refine TxtE.cons rfl ⟨.same _, .same _, .same _, .same _, trivial⟩ rfl (GOk.to (d' := (L 1 (eI .u8) ([(bitOr .u8 (IntKind.u8.wrap ((a0).fdiv (2 ^ min (Int.toNat 18) (IntKind.bits .i32)))) 240), t9, t11, t13] : List Int))) (GOk.lit rfl Try.underlying41 sz5 zs5 rfl rfl rfl rfl) rfl) ?_
            refine TxtE.cons rfl ⟨.same _, trivial⟩ rfl (VOk.g (VOk.bytesStr (xs := ([(bitOr .u8 (IntKind.u8.wrap ((a0).fdiv (2 ^ min (Int.toNat 18) (IntKind.bits .i32)))) 240), t9, t11, t13] : List Int)) rfl Try.underlying41 Try.underlying5 Try.underlying9 rfl)) ?_
            refine TxtE.cons rfl ⟨.same _, trivial⟩ rfl (VOk.g (VOk.asg (d := (S (strOfBytes ([(bitOr .u8 (IntKind.u8.wrap ((a0).fdiv (2 ^ min (Int.toNat 18) (IntKind.bits .i32)))) 240), t9, t11, t13] : List Int)))) rfl rfl)) ?_
            exact .done (.mk ⟨.same _, trivial⟩ trivial)
          refine Ok.le (σ' := ⟨[(2, (S (strOfBytes ([(bitOr .u8 (IntKind.u8.wrap ((a0).fdiv (2 ^ min (Int.toNat 18) (IntKind.bits .i32)))) 240), t9, t11, t13] : List Int))))], []⟩) (.mk ⟨.same _, trivial⟩ trivial) ?_
          refine Ok.ret ?_
          obtain rfl := Option.some.inj H
          exact ⟨.inl rfl, rfl, rfl⟩

/-! watchbill/utf.within: function 34 -/
def utf_within.l0 (k : Nat) (a0 : Int) (a1 : List T_utf_span) : Nat → Int → Option Bool
  | 0, _ => none
  | m + 1, x9_1 => (if (decide (x9_1 < (a1.length : Int))) = true then (if (0 : Int) ≤ x9_1 ∧ x9_1 < (a1.length : Int) then (if ((decide (a0 ≥ ((rd a1 x9_1).From_))) && (decide (a0 ≤ ((rd a1 x9_1).To_)))) = true then some true else utf_within.l0 k a0 a1 m (IntKind.i64.wrap (x9_1 + 1))) else none) else some false)
def utf_within (k : Nat) (a0 : Int) (a1 : List T_utf_span) : Option Bool := utf_within.l0 k a0 a1 k 0
theorem utf_within.ok {k : Nat} {a0 : Int} {a1 : List T_utf_span} {r : Bool} (H : utf_within k a0 a1 = some r) : Vx.Fn Try.prog 34 [(.v (.int .i32 a0)), (L 2 e_utf_span a1)] [] (.v (.bool r)) [] := by
  unfold utf_within at H
  refine Vx.Fn.of_ok Try.func34 rfl (Nat.le_of_ble_eq_true rfl) ?_
  refine Ok.seq ?_
  refine Ok.region (σ' := ⟨[(0, (.v (.int .i32 a0))), (1, (L 2 e_utf_span a1))], []⟩) ?_ ?_
  · refine OpsOk.cons rfl (.v (VOk.asg (d := (.v (.bool false))) rfl rfl) rfl) ?_
    exact .done (.mk ⟨.same _, .same _, trivial⟩ trivial)
  refine Ok.seq ?_
  refine Ok.seq ?_
  refine Ok.region (σ' := ⟨[(0, (.v (.int .i32 a0))), (7, (L 2 e_utf_span a1)), (8, (.v (.int .i64 (a1.length : Int)))), (9, (.v (.int .i64 0)))], []⟩) ?_ ?_
  · refine OpsOk.cons rfl (.v (VOk.mv (d := (L 2 e_utf_span a1)) rfl rfl) rfl) ?_
    refine OpsOk.cons rfl (.v (VOk.lenL (e := e_utf_span) (xs := a1) rfl Try.underlying51 rfl) rfl) ?_
    refine OpsOk.cons rfl (.v (VOk.mv (d := (.v (.int .i64 0))) rfl rfl) rfl) ?_
    exact .done (.mk ⟨.same _, .same _, .same _, .same _, trivial⟩ trivial)
  refine Ok.block ?_
  refine Ok.le (σ' := ⟨[(0, (.v (.int .i32 a0))), (7, (L 2 e_utf_span a1)), (8, (.v (.int .i64 (a1.length : Int)))), (9, (.v (.int .i64 0)))], []⟩) (.mk ⟨.same _, .same _, .same _, .same _, trivial⟩ trivial) ?_
  refine Ok.loop (fun m σ => ∃ (x9_1 : Int), σ = ⟨[(0, (.v (.int .i32 a0))), (7, (L 2 e_utf_span a1)), (8, (.v (.int .i64 (a1.length : Int)))), (9, (.v (.int .i64 x9_1)))], []⟩ ∧ utf_within.l0 k a0 a1 m x9_1 = some r) k ⟨0, rfl, H⟩ ?_
  rintro m σ ⟨x9_1, rfl, H⟩
  cases m with
  | zero => exact absurd H (by simp [utf_within.l0])
  | succ m =>
    unfold utf_within.l0 at H
    refine Ok.seq ?_
    refine Ok.region (σ' := ⟨[(0, (.v (.int .i32 a0))), (7, (L 2 e_utf_span a1)), (8, (.v (.int .i64 (a1.length : Int)))), (9, (.v (.int .i64 x9_1))), (10, (.v (.bool (decide (x9_1 < (a1.length : Int))))))], []⟩) ?_ ?_
    · refine OpsOk.cons rfl (.v (VOk.arith (op := .lss) (k := .i64) (a := x9_1) (b := (a1.length : Int)) rfl rfl rfl rfl) rfl) ?_
      exact .done (.mk ⟨.same _, .same _, .same _, .same _, .same _, trivial⟩ trivial)
    refine Ok.seq ?_
    refine Ok.test (b := (decide (x9_1 < (a1.length : Int)))) rfl (fun hb7 => ?_) (fun hb7 => ?_)
    · replace H := ifT H hb7
      refine Ok.le (σ' := ⟨[(0, (.v (.int .i32 a0))), (7, (L 2 e_utf_span a1)), (8, (.v (.int .i64 (a1.length : Int)))), (9, (.v (.int .i64 x9_1)))], []⟩) (.mk ⟨.same _, .same _, .same _, .same _, trivial⟩ trivial) ?_
      refine Ok.skip ?_
      refine Ok.seq ?_
      refine Ok.block ?_
      refine Ok.seq ?_
      obtain ⟨c3, H⟩ := assertE H
      refine Ok.region (σ' := ⟨[(0, (.v (.int .i32 a0))), (6, (.bref 6 0)), (7, (L 2 e_utf_span a1)), (8, (.v (.int .i64 (a1.length : Int)))), (9, (.v (.int .i64 x9_1)))], [(6, (.box true [(.v (.int .i32 ((rd a1 x9_1).From_))), (.v (.int .i32 ((rd a1 x9_1).To_)))]))]⟩) ?_ ?_
      · refine OpsOk.cons rfl (.v (VOk.indexL (sz := 2) (e := e_utf_span) (xs := a1) (i := x9_1) rfl Try.underlying51 sz48 rfl rfl c3) rfl) ?_
        refine OpsOk.cons rfl (.v (VOk.to (d' := (.agg (e_utf_span (rd a1 x9_1)))) (.loadFpAgg rfl Try.underlying48 rfl sz48 rfl rfl) rfl) rfl) ?_
        refine OpsOk.cons rfl (OpOk.alloc 6 [none, none] rfl zo48 rfl rfl) ?_
        refine OpsOk.cons rfl (OpOk.to (σ2 := St.put ⟨_, (6, (.box true [(.v (.int .i32 ((rd a1 x9_1).From_))), (.v (.int .i32 ((rd a1 x9_1).To_)))])) :: _⟩ _ .junk) (.storeB rfl sz48 rfl rfl rfl rfl rfl) rfl) ?_
        exact .done (.mk ⟨.same _, .same _, .same _, .same _, .same _, trivial⟩ ⟨.same _, trivial⟩)
      refine Ok.seq ?_
      refine Ok.region (σ' := ⟨[(0, (.v (.int .i32 a0))), (7, (L 2 e_utf_span a1)), (8, (.v (.int .i64 (a1.length : Int)))), (9, (.v (.int .i64 x9_1))), (22, (.v (.bool ((decide (a0 ≥ ((rd a1 x9_1).From_))) && (decide (a0 ≤ ((rd a1 x9_1).To_)))))))], []⟩) ?_ ?_
      · refine OpsOk.cons rfl (.v (VOk.mv (d := (.v (.int .i32 a0))) rfl rfl) rfl) ?_
        refine OpsOk.cons rfl (.v (VOk.fieldB rfl Try.underlying48 rfl sz21 rfl rfl) rfl) ?_
        refine OpsOk.cons rfl (.v (VOk.loadB (d := (.v (.int .i32 ((rd a1 x9_1).From_)))) rfl Try.underlying21 rfl rfl rfl rfl) rfl) ?_
        refine OpsOk.cons rfl (.v (VOk.arith (op := .geq) (k := .i32) (a := a0) (b := (rd a1 x9_1).From_) rfl rfl rfl rfl) rfl) ?_
        refine OpsOk.cons rfl (.v (VOk.mv (d := (.v (.bool (decide (a0 ≥ ((rd a1 x9_1).From_)))))) rfl rfl) rfl) ?_
        refine OpsOk.consI rfl rfl rfl (.one rfl) rfl (fun hw4 => (VOk.g (VOk.mv (d := (.v (.int .i32 a0))) rfl rfl))) ?_
        refine OpsOk.consI rfl rfl rfl (.one rfl) rfl (fun hw4 => (VOk.g (VOk.fieldB rfl Try.underlying48 rfl sz21 rfl rfl))) ?_
        refine OpsOk.consI rfl rfl rfl (.one rfl) rfl (fun hw4 => (GOk.fr (fr' := [(19, (.bref 6 1))]) ⟨DLe.of_eq (cT hw4).symm, trivial⟩ (VOk.g (VOk.loadB (d := (.v (.int .i32 ((rd a1 x9_1).To_)))) rfl Try.underlying21 rfl rfl rfl rfl)))) ?_
        refine OpsOk.consI rfl rfl rfl (.one rfl) rfl (fun hw4 => (GOk.fr (fr' := [(18, (.v (.int .i32 a0))), (20, (.v (.int .i32 ((rd a1 x9_1).To_))))]) ⟨DLe.of_eq (cT hw4).symm, DLe.of_eq (cT hw4).symm, trivial⟩ (VOk.g (VOk.arith (op := .leq) (k := .i32) (a := a0) (b := (rd a1 x9_1).To_) rfl rfl rfl rfl)))) ?_
        refine OpsOk.cons rfl (.v (VOk.to (VOk.pickI (b := (decide (a0 ≥ ((rd a1 x9_1).From_)))) (p := (decide (a0 ≤ ((rd a1 x9_1).To_)))) (q := false) rfl rfl (fun hp5 => (cT (t_beq hp5))) (fun hp5 => rfl)) (pickAnd (decide (a0 ≥ ((rd a1 x9_1).From_))) (decide (a0 ≤ ((rd a1 x9_1).To_))))) rfl) ?_
        exact .done (.mk ⟨.same _, .same _, .same _, .same _, .same _, trivial⟩ trivial)
      refine Ok.test (b := ((decide (a0 ≥ ((rd a1 x9_1).From_))) && (decide (a0 ≤ ((rd a1 x9_1).To_))))) rfl (fun hb6 => ?_) (fun hb6 => ?_)
      · replace H := ifT H hb6
        refine Ok.seq ?_
        refine Ok.region (σ' := ⟨[(4, (.v (.bool true)))], []⟩) ?_ ?_
        · refine OpsOk.cons rfl (.v (VOk.asg (d := (.v (.bool true))) rfl rfl) rfl) ?_
          exact .done (.mk ⟨.same _, trivial⟩ trivial)
        refine Ok.le (σ' := ⟨[(4, (.v (.bool true)))], []⟩) (.mk ⟨.same _, trivial⟩ trivial) ?_
        refine Ok.ret ?_
        obtain rfl := Option.some.inj H
        exact ⟨.inl rfl, rfl, rfl⟩
      · replace H := ifF H hb6
        refine Ok.le (σ' := ⟨[(0, (.v (.int .i32 a0))), (7, (L 2 e_utf_span a1)), (8, (.v (.int .i64 (a1.length : Int)))), (9, (.v (.int .i64 x9_1)))], []⟩) (.mk ⟨.same _, .same _, .same _, .same _, trivial⟩ trivial) ?_
        refine Ok.skip ?_
        refine Ok.region (σ' := ⟨[(0, (.v (.int .i32 a0))), (7, (L 2 e_utf_span a1)), (8, (.v (.int .i64 (a1.length : Int)))), (9, (.v (.int .i64 (IntKind.i64.wrap (x9_1 + 1)))))], []⟩) ?_ ?_
        · refine OpsOk.cons rfl (.v (VOk.arith (op := .add) (k := .i64) (a := x9_1) (b := 1) rfl rfl rfl rfl) rfl) ?_
          refine OpsOk.cons rfl (.v (VOk.mv (d := (.v (.int .i64 (IntKind.i64.wrap (x9_1 + 1))))) rfl rfl) rfl) ?_
          exact .done (.mk ⟨.same _, .same _, .same _, .same _, trivial⟩ trivial)
        exact ⟨m, Nat.lt_succ_self m, (IntKind.i64.wrap (x9_1 + 1)), rfl, H⟩
    · replace H := ifF H hb7
      refine Ok.le (σ' := ⟨[], []⟩) (.mk trivial trivial) ?_
      refine Ok.exit ?_
      refine Ok.seq ?_
      refine Ok.region (σ' := ⟨[(4, (.v (.bool false)))], []⟩) ?_ ?_
      · refine OpsOk.cons rfl (.v (VOk.asg (d := (.v (.bool false))) rfl rfl) rfl) ?_
        exact .done (.mk ⟨.same _, trivial⟩ trivial)
      refine Ok.le (σ' := ⟨[(4, (.v (.bool false)))], []⟩) (.mk ⟨.same _, trivial⟩ trivial) ?_
      refine Ok.ret ?_
      obtain rfl := Option.some.inj H
      exact ⟨.inl rfl, rfl, rfl⟩

/-! watchbill/utf.Start: function 17 -/
def utf_Start (k : Nat) (a0 : Int) : Option Bool := ((utf_within k a0 ([(T_utf_span.mk 65 90), (T_utf_span.mk 97 122), (T_utf_span.mk 95 95), (T_utf_span.mk 192 214), (T_utf_span.mk 216 246), (T_utf_span.mk 248 767), (T_utf_span.mk 880 893), (T_utf_span.mk 895 8191), (T_utf_span.mk 8204 8205), (T_utf_span.mk 8304 8591), (T_utf_span.mk 11264 12271), (T_utf_span.mk 12289 55295), (T_utf_span.mk 63744 64975), (T_utf_span.mk 65008 65533), (T_utf_span.mk 65536 983039)] : List T_utf_span)).bind fun (t1 : Bool) => some t1)
theorem utf_Start.ok {k : Nat} {a0 : Int} {r : Bool} (H : utf_Start k a0 = some r) : Vx.Fn Try.prog 17 [(.v (.int .i32 a0))] [] (.v (.bool r)) [] := by
  unfold utf_Start at H
  refine Vx.Fn.of_ok Try.func17 rfl (Nat.le_of_ble_eq_true rfl) ?_
  refine Ok.seq ?_
  refine Ok.region (σ' := ⟨[(0, (.v (.int .i32 a0)))], []⟩) ?_ ?_
  · refine OpsOk.cons rfl (.v (VOk.asg (d := (.v (.bool false))) rfl rfl) rfl) ?_
    exact .done (.mk ⟨.same _, trivial⟩ trivial)
  refine Ok.seq ?_
  obtain ⟨t1, h2, H⟩ := bindE H
  refine Ok.region (σ' := ⟨[(2, (.v (.bool t1)))], []⟩) ?_ ?_
  · refine OpsOk.cons rfl (.v (VOk.mv (d := (.v (.int .i32 a0))) rfl rfl) rfl) ?_
    refine OpsOk.cons rfl (.v (VOk.to (d' := (.agg (e_utf_span (T_utf_span.mk 65 90)))) (.build [none, none] [(0, 1), (1, 1)] rfl Try.underlying48 (fa48 Try.underlying48) zo48 rfl rfl) rfl) rfl) ?_
    refine OpsOk.cons rfl (.v (VOk.to (d' := (.agg (e_utf_span (T_utf_span.mk 97 122)))) (.build [none, none] [(0, 1), (1, 1)] rfl Try.underlying48 (fa48 Try.underlying48) zo48 rfl rfl) rfl) rfl) ?_
    refine OpsOk.cons rfl (.v (VOk.to (d' := (.agg (e_utf_span (T_utf_span.mk 95 95)))) (.build [none, none] [(0, 1), (1, 1)] rfl Try.underlying48 (fa48 Try.underlying48) zo48 rfl rfl) rfl) rfl) ?_
    refine OpsOk.cons rfl (.v (VOk.to (d' := (.agg (e_utf_span (T_utf_span.mk 192 214)))) (.build [none, none] [(0, 1), (1, 1)] rfl Try.underlying48 (fa48 Try.underlying48) zo48 rfl rfl) rfl) rfl) ?_
    refine OpsOk.cons rfl (.v (VOk.to (d' := (.agg (e_utf_span (T_utf_span.mk 216 246)))) (.build [none, none] [(0, 1), (1, 1)] rfl Try.underlying48 (fa48 Try.underlying48) zo48 rfl rfl) rfl) rfl) ?_
    refine OpsOk.cons rfl (.v (VOk.to (d' := (.agg (e_utf_span (T_utf_span.mk 248 767)))) (.build [none, none] [(0, 1), (1, 1)] rfl Try.underlying48 (fa48 Try.underlying48) zo48 rfl rfl) rfl) rfl) ?_
    refine OpsOk.cons rfl (.v (VOk.to (d' := (.agg (e_utf_span (T_utf_span.mk 880 893)))) (.build [none, none] [(0, 1), (1, 1)] rfl Try.underlying48 (fa48 Try.underlying48) zo48 rfl rfl) rfl) rfl) ?_
    refine OpsOk.cons rfl (.v (VOk.to (d' := (.agg (e_utf_span (T_utf_span.mk 895 8191)))) (.build [none, none] [(0, 1), (1, 1)] rfl Try.underlying48 (fa48 Try.underlying48) zo48 rfl rfl) rfl) rfl) ?_
    refine OpsOk.cons rfl (.v (VOk.to (d' := (.agg (e_utf_span (T_utf_span.mk 8204 8205)))) (.build [none, none] [(0, 1), (1, 1)] rfl Try.underlying48 (fa48 Try.underlying48) zo48 rfl rfl) rfl) rfl) ?_
    refine OpsOk.cons rfl (.v (VOk.to (d' := (.agg (e_utf_span (T_utf_span.mk 8304 8591)))) (.build [none, none] [(0, 1), (1, 1)] rfl Try.underlying48 (fa48 Try.underlying48) zo48 rfl rfl) rfl) rfl) ?_
    refine OpsOk.cons rfl (.v (VOk.to (d' := (.agg (e_utf_span (T_utf_span.mk 11264 12271)))) (.build [none, none] [(0, 1), (1, 1)] rfl Try.underlying48 (fa48 Try.underlying48) zo48 rfl rfl) rfl) rfl) ?_
    refine OpsOk.cons rfl (.v (VOk.to (d' := (.agg (e_utf_span (T_utf_span.mk 12289 55295)))) (.build [none, none] [(0, 1), (1, 1)] rfl Try.underlying48 (fa48 Try.underlying48) zo48 rfl rfl) rfl) rfl) ?_
    refine OpsOk.cons rfl (.v (VOk.to (d' := (.agg (e_utf_span (T_utf_span.mk 63744 64975)))) (.build [none, none] [(0, 1), (1, 1)] rfl Try.underlying48 (fa48 Try.underlying48) zo48 rfl rfl) rfl) rfl) ?_
    refine OpsOk.cons rfl (.v (VOk.to (d' := (.agg (e_utf_span (T_utf_span.mk 65008 65533)))) (.build [none, none] [(0, 1), (1, 1)] rfl Try.underlying48 (fa48 Try.underlying48) zo48 rfl rfl) rfl) rfl) ?_
    refine OpsOk.cons rfl (.v (VOk.to (d' := (.agg (e_utf_span (T_utf_span.mk 65536 983039)))) (.build [none, none] [(0, 1), (1, 1)] rfl Try.underlying48 (fa48 Try.underlying48) zo48 rfl rfl) rfl) rfl) ?_
    refine OpsOk.cons rfl (.g (GOk.to (d' := (L 2 e_utf_span ([(T_utf_span.mk 65 90), (T_utf_span.mk 97 122), (T_utf_span.mk 95 95), (T_utf_span.mk 192 214), (T_utf_span.mk 216 246), (T_utf_span.mk 248 767), (T_utf_span.mk 880 893), (T_utf_span.mk 895 8191), (T_utf_span.mk 8204 8205), (T_utf_span.mk 8304 8591), (T_utf_span.mk 11264 12271), (T_utf_span.mk 12289 55295), (T_utf_span.mk 63744 64975), (T_utf_span.mk 65008 65533), (T_utf_span.mk 65536 983039)] : List T_utf_span))) (GOk.lit rfl Try.underlying51 sz48 zs48 rfl rfl rfl rfl) rfl) rfl) ?_
    refine OpsOk.cons rfl (.g (GOk.call rfl rfl cl34 rfl (utf_within.ok h2) rfl) rfl) ?_
    refine OpsOk.cons rfl (.v (VOk.asg (d := (.v (.bool t1))) rfl rfl) rfl) ?_
    exact .done (.mk ⟨.same _, trivial⟩ trivial)
  refine Ok.le (σ' := ⟨[(2, (.v (.bool t1)))], []⟩) (.mk ⟨.same _, trivial⟩ trivial) ?_
  refine Ok.ret ?_
  obtain rfl := Option.some.inj H
  exact ⟨.inl rfl, rfl, rfl⟩

/-! watchbill/utf.Part: function 19 -/
def utf_Part (k : Nat) (a0 : Int) : Option Bool := ((utf_Start k a0).bind fun (t1 : Bool) => (((if (t1 == false) = true then utf_within k a0 ([(T_utf_span.mk 45 46), (T_utf_span.mk 48 57), (T_utf_span.mk 183 183), (T_utf_span.mk 768 879), (T_utf_span.mk 8255 8256)] : List T_utf_span) else some default)).bind fun (t4 : Bool) => some (t1 || t4)))
theorem utf_Part.ok {k : Nat} {a0 : Int} {r : Bool} (H : utf_Part k a0 = some r) : Vx.Fn Try.prog 19 [(.v (.int .i32 a0))] [] (.v (.bool r)) [] := by
  unfold utf_Part at H
  refine Vx.Fn.of_ok Try.func19 rfl (Nat.le_of_ble_eq_true rfl) ?_
  refine Ok.seq ?_
  refine Ok.region (σ' := ⟨[(0, (.v (.int .i32 a0)))], []⟩) ?_ ?_
  · refine OpsOk.cons rfl (.v (VOk.asg (d := (.v (.bool false))) rfl rfl) rfl) ?_
    exact .done (.mk ⟨.same _, trivial⟩ trivial)
  refine Ok.seq ?_
  obtain ⟨t1, h2, H⟩ := bindE H
  obtain ⟨t4, h5, H⟩ := bindE H
  refine Ok.region (σ' := ⟨[(2, (.v (.bool (t1 || t4))))], []⟩) ?_ ?_
  · refine OpsOk.cons rfl (.v (VOk.mv (d := (.v (.int .i32 a0))) rfl rfl) rfl) ?_
    refine OpsOk.cons rfl (.g (GOk.call rfl rfl cl17 rfl (utf_Start.ok h2) rfl) rfl) ?_
    refine OpsOk.cons rfl (.v (VOk.mv (d := (.v (.bool t1))) rfl rfl) rfl) ?_
    refine OpsOk.consI rfl rfl rfl (.one rfl) rfl (fun hw3 => (VOk.g (VOk.mv (d := (.v (.int .i32 a0))) rfl rfl))) ?_
    refine OpsOk.consI rfl rfl rfl (.one rfl) rfl (fun hw3 => (VOk.g (VOk.to (d' := (.agg (e_utf_span (T_utf_span.mk 45 46)))) (.build [none, none] [(0, 1), (1, 1)] rfl Try.underlying48 (fa48 Try.underlying48) zo48 rfl rfl) rfl))) ?_
    refine OpsOk.consI rfl rfl rfl (.one rfl) rfl (fun hw3 => (VOk.g (VOk.to (d' := (.agg (e_utf_span (T_utf_span.mk 48 57)))) (.build [none, none] [(0, 1), (1, 1)] rfl Try.underlying48 (fa48 Try.underlying48) zo48 rfl rfl) rfl))) ?_
    refine OpsOk.consI rfl rfl rfl (.one rfl) rfl (fun hw3 => (VOk.g (VOk.to (d' := (.agg (e_utf_span (T_utf_span.mk 183 183)))) (.build [none, none] [(0, 1), (1, 1)] rfl Try.underlying48 (fa48 Try.underlying48) zo48 rfl rfl) rfl))) ?_
    refine OpsOk.consI rfl rfl rfl (.one rfl) rfl (fun hw3 => (VOk.g (VOk.to (d' := (.agg (e_utf_span (T_utf_span.mk 768 879)))) (.build [none, none] [(0, 1), (1, 1)] rfl Try.underlying48 (fa48 Try.underlying48) zo48 rfl rfl) rfl))) ?_
    refine OpsOk.consI rfl rfl rfl (.one rfl) rfl (fun hw3 => (VOk.g (VOk.to (d' := (.agg (e_utf_span (T_utf_span.mk 8255 8256)))) (.build [none, none] [(0, 1), (1, 1)] rfl Try.underlying48 (fa48 Try.underlying48) zo48 rfl rfl) rfl))) ?_
    refine OpsOk.consI rfl rfl rfl (.one rfl) rfl (fun hw3 => (GOk.fr (fr' := [(7, (.agg (e_utf_span (T_utf_span.mk 45 46)))), (8, (.agg (e_utf_span (T_utf_span.mk 48 57)))), (9, (.agg (e_utf_span (T_utf_span.mk 183 183)))), (10, (.agg (e_utf_span (T_utf_span.mk 768 879)))), (11, (.agg (e_utf_span (T_utf_span.mk 8255 8256))))]) ⟨DLe.of_eq (cT hw3).symm, DLe.of_eq (cT hw3).symm, DLe.of_eq (cT hw3).symm, DLe.of_eq (cT hw3).symm, DLe.of_eq (cT hw3).symm, trivial⟩ (GOk.to (d' := (L 2 e_utf_span ([(T_utf_span.mk 45 46), (T_utf_span.mk 48 57), (T_utf_span.mk 183 183), (T_utf_span.mk 768 879), (T_utf_span.mk 8255 8256)] : List T_utf_span))) (GOk.lit rfl Try.underlying51 sz48 zs48 rfl rfl rfl rfl) rfl))) ?_
    refine OpsOk.consI rfl rfl rfl (.one rfl) rfl (fun hw3 => (GOk.fr (fr' := [(6, (.v (.int .i32 a0))), (12, (L 2 e_utf_span ([(T_utf_span.mk 45 46), (T_utf_span.mk 48 57), (T_utf_span.mk 183 183), (T_utf_span.mk 768 879), (T_utf_span.mk 8255 8256)] : List T_utf_span)))]) ⟨DLe.of_eq (cT hw3).symm, DLe.of_eq (cT hw3).symm, trivial⟩ (GOk.call rfl rfl cl34 rfl (utf_within.ok (ifT h5 hw3)) rfl))) ?_
    refine OpsOk.cons rfl (.v (VOk.to (VOk.pickI (b := t1) (p := true) (q := t4) rfl rfl (fun hp6 => rfl) (fun hp6 => (cT (f_beq hp6)))) (pickOr t1 t4)) rfl) ?_
    refine OpsOk.cons rfl (.v (VOk.asg (d := (.v (.bool (t1 || t4)))) rfl rfl) rfl) ?_
    exact .done (.mk ⟨.same _, trivial⟩ trivial)
  refine Ok.le (σ' := ⟨[(2, (.v (.bool (t1 || t4))))], []⟩) (.mk ⟨.same _, trivial⟩ trivial) ?_
  refine Ok.ret ?_
  obtain rfl := Option.some.inj H
  exact ⟨.inl rfl, rfl, rfl⟩

/-! watchbill/utf.Name: function 23 -/
def utf_Name.l0 (k : Nat) (a0 : Str) : Nat → Nat → Int → Option Bool
  | 0, _, _ => none
  | m + 1, x3_6, x4_7 => (if (decide (x4_7 < (a0.length : Int))) = true then ((utf_Rune k a0 x4_7).bind fun (t10 : Int × Int) => (((if ((t10.2 == 0) == false) = true then (if x3_6 = 17 then utf_Start k t10.1 else (if x3_6 = 19 then utf_Part k t10.1 else none)) else some default)).bind fun (t13 : Bool) => (if ((t10.2 == 0) || (!t13)) = true then some false else utf_Name.l0 k a0 m 19 (IntKind.i64.wrap (x4_7 + t10.2))))) else some true)
def utf_Name (k : Nat) (a0 : Str) : Option Bool := (if ((a0 == ([] : Str)) || (decide ((a0.length : Int) > 64))) = true then some false else utf_Name.l0 k a0 k 17 0)
theorem utf_Name.ok {k : Nat} {a0 : Str} {r : Bool} (H : utf_Name k a0 = some r) : Vx.Fn Try.prog 23 [(S a0)] [] (.v (.bool r)) [] := by
  unfold utf_Name at H
  refine Vx.Fn.of_ok Try.func23 rfl (Nat.le_of_ble_eq_true rfl) ?_
  refine Ok.seq ?_
  refine Ok.region (σ' := ⟨[(0, (S a0))], []⟩) ?_ ?_
  · refine OpsOk.cons rfl (.v (VOk.asg (d := (.v (.bool false))) rfl rfl) rfl) ?_
    exact .done (.mk ⟨.same _, trivial⟩ trivial)
  refine Ok.seq ?_
  refine Ok.seq ?_
  refine Ok.region (σ' := ⟨[(0, (S a0)), (13, (.v (.bool ((a0 == ([] : Str)) || (decide ((a0.length : Int) > 64))))))], []⟩) ?_ ?_
  · refine OpsOk.cons rfl (.v (VOk.mv (d := (S a0)) rfl rfl) rfl) ?_
    refine OpsOk.cons rfl (.v (VOk.strOp (op := .eql) (a := a0) (b := ([] : Str)) rfl rfl rfl rfl) rfl) ?_
    refine OpsOk.cons rfl (.v (VOk.mv (d := (.v (.bool (a0 == ([] : Str))))) rfl rfl) rfl) ?_
    refine OpsOk.consI rfl rfl rfl (.one rfl) rfl (fun hw1 => (VOk.g (VOk.mv (d := (S a0)) rfl rfl))) ?_
    refine OpsOk.consI rfl rfl rfl (.one rfl) rfl (fun hw1 => (GOk.fr (fr' := [(10, (S a0))]) ⟨DLe.of_eq (cT hw1).symm, trivial⟩ (VOk.g (VOk.lenStr (s := a0) rfl Try.underlying9 rfl)))) ?_
    refine OpsOk.consI rfl rfl rfl (.one rfl) rfl (fun hw1 => (GOk.fr (fr' := [(11, (.v (.int .i64 (a0.length : Int))))]) ⟨DLe.of_eq (cT hw1).symm, trivial⟩ (VOk.g (VOk.arith (op := .gtr) (k := .i64) (a := (a0.length : Int)) (b := 64) rfl rfl rfl rfl)))) ?_
    refine OpsOk.cons rfl (.v (VOk.to (VOk.pickI (b := (a0 == ([] : Str))) (p := true) (q := (decide ((a0.length : Int) > 64))) rfl rfl (fun hp2 => rfl) (fun hp2 => (cT (f_beq hp2)))) (pickOr (a0 == ([] : Str)) (decide ((a0.length : Int) > 64)))) rfl) ?_
    exact .done (.mk ⟨.same _, .same _, trivial⟩ trivial)
  refine Ok.test (b := ((a0 == ([] : Str)) || (decide ((a0.length : Int) > 64)))) rfl (fun hb18 => ?_) (fun hb18 => ?_)
  · replace H := ifT H hb18
    refine Ok.seq ?_
    refine Ok.region (σ' := ⟨[(2, (.v (.bool false)))], []⟩) ?_ ?_
    · refine OpsOk.cons rfl (.v (VOk.asg (d := (.v (.bool false))) rfl rfl) rfl) ?_
      exact .done (.mk ⟨.same _, trivial⟩ trivial)
    refine Ok.le (σ' := ⟨[(2, (.v (.bool false)))], []⟩) (.mk ⟨.same _, trivial⟩ trivial) ?_
    refine Ok.ret ?_
    obtain rfl := Option.some.inj H
    exact ⟨.inl rfl, rfl, rfl⟩
  · replace H := ifF H hb18
    refine Ok.le (σ' := ⟨[(0, (S a0))], []⟩) (.mk ⟨.same _, trivial⟩ trivial) ?_
    refine Ok.skip ?_
    refine Ok.seq ?_
    refine Ok.region (σ' := ⟨[(0, (S a0)), (3, (.clo 17 []))], []⟩) ?_ ?_
    · refine OpsOk.cons rfl (.v (VOk.asg (d := (.clo 17 [])) rfl rfl) rfl) ?_
      exact .done (.mk ⟨.same _, .same _, trivial⟩ trivial)
    refine Ok.seq ?_
    refine Ok.seq ?_
    refine Ok.region (σ' := ⟨[(0, (S a0)), (3, (.clo 17 [])), (4, (.v (.int .i64 0)))], []⟩) ?_ ?_
    · refine OpsOk.cons rfl (.v (VOk.asg (d := (.v (.int .i64 0))) rfl rfl) rfl) ?_
      exact .done (.mk ⟨.same _, .same _, .same _, trivial⟩ trivial)
    refine Ok.block ?_
    refine Ok.le (σ' := ⟨[(0, (S a0)), (3, (.clo 17 [])), (4, (.v (.int .i64 0)))], []⟩) (.mk ⟨.same _, .same _, .same _, trivial⟩ trivial) ?_
    refine Ok.loop (fun m σ => ∃ (x3_6 : Nat) (x4_7 : Int), σ = ⟨[(0, (S a0)), (3, (.clo x3_6 [])), (4, (.v (.int .i64 x4_7)))], []⟩ ∧ utf_Name.l0 k a0 m x3_6 x4_7 = some r) k ⟨17, 0, rfl, H⟩ ?_
    rintro m σ ⟨x3_6, x4_7, rfl, H⟩
    cases m with
    | zero => exact absurd H (by simp [utf_Name.l0])
    | succ m =>
      unfold utf_Name.l0 at H
      refine Ok.seq ?_
      refine Ok.seq ?_
      refine Ok.region (σ' := ⟨[(0, (S a0)), (3, (.clo x3_6 [])), (4, (.v (.int .i64 x4_7))), (17, (.v (.bool (decide (x4_7 < (a0.length : Int))))))], []⟩) ?_ ?_
      · refine OpsOk.cons rfl (.v (VOk.mv (d := (.v (.int .i64 x4_7))) rfl rfl) rfl) ?_
        refine OpsOk.cons rfl (.v (VOk.mv (d := (S a0)) rfl rfl) rfl) ?_
        refine OpsOk.cons rfl (.v (VOk.lenStr (s := a0) rfl Try.underlying9 rfl) rfl) ?_
        refine OpsOk.cons rfl (.v (VOk.arith (op := .lss) (k := .i64) (a := x4_7) (b := (a0.length : Int)) rfl rfl rfl rfl) rfl) ?_
        exact .done (.mk ⟨.same _, .same _, .same _, .same _, trivial⟩ trivial)
      refine Ok.test (b := (decide (x4_7 < (a0.length : Int)))) rfl (fun hb17 => ?_) (fun hb17 => ?_)
      · replace H := ifT H hb17
        refine Ok.le (σ' := ⟨[(0, (S a0)), (3, (.clo x3_6 [])), (4, (.v (.int .i64 x4_7)))], []⟩) (.mk ⟨.same _, .same _, .same _, trivial⟩ trivial) ?_
        refine Ok.skip ?_
        refine Ok.seq ?_
        refine Ok.block ?_
        refine Ok.seq ?_
        obtain ⟨t10, h11, H⟩ := bindE H
        refine Ok.region (σ' := ⟨[(0, (S a0)), (3, (.clo x3_6 [])), (4, (.v (.int .i64 x4_7))), (5, (.v (.int .i32 t10.1))), (6, (.v (.int .i64 t10.2)))], []⟩) ?_ ?_
        · refine OpsOk.cons rfl (.v (VOk.mv (d := (S a0)) rfl rfl) rfl) ?_
          refine OpsOk.cons rfl (.v (VOk.mv (d := (.v (.int .i64 x4_7))) rfl rfl) rfl) ?_
          refine OpsOk.cons rfl (.g (GOk.call rfl rfl cl10 rfl (utf_Rune.ok h11) rfl) rfl) ?_
          refine OpsOk.cons rfl (.v (VOk.mv (d := (.tup [(.v (.int .i32 t10.1)), (.v (.int .i64 t10.2))])) rfl rfl) rfl) ?_
          refine OpsOk.cons rfl (.v (VOk.extract (d := (.v (.int .i32 t10.1))) rfl rfl rfl) rfl) ?_
          refine OpsOk.cons rfl (.v (VOk.extract (d := (.v (.int .i64 t10.2))) rfl rfl rfl) rfl) ?_
          refine OpsOk.cons rfl (.v (VOk.asg (d := (.v (.int .i32 t10.1))) rfl rfl) rfl) ?_
          refine OpsOk.cons rfl (.v (VOk.asg (d := (.v (.int .i64 t10.2))) rfl rfl) rfl) ?_
          exact .done (.mk ⟨.same _, .same _, .same _, .same _, .same _, trivial⟩ trivial)
        refine Ok.seq ?_
        refine Ok.seq ?_
        obtain ⟨t13, h14, H⟩ := bindE H
        refine Ok.region (σ' := ⟨[(0, (S a0)), (4, (.v (.int .i64 x4_7))), (6, (.v (.int .i64 t10.2))), (31, (.v (.bool ((t10.2 == 0) || (!t13)))))], []⟩) ?_ ?_
        · refine OpsOk.cons rfl (.v (VOk.mv (d := (.v (.int .i64 t10.2))) rfl rfl) rfl) ?_
          refine OpsOk.cons rfl (.v (VOk.arith (op := .eql) (k := .i64) (a := t10.2) (b := 0) rfl rfl rfl rfl) rfl) ?_
          refine OpsOk.cons rfl (.v (VOk.mv (d := (.v (.bool (t10.2 == 0)))) rfl rfl) rfl) ?_
          refine OpsOk.consI rfl rfl rfl (.one rfl) rfl (fun hw12 => (VOk.g (VOk.mv (d := (.clo x3_6 [])) rfl rfl))) ?_
          refine OpsOk.consI rfl rfl rfl (.one rfl) rfl (fun hw12 => (VOk.g (VOk.mv (d := (.v (.int .i32 t10.1))) rfl rfl))) ?_
          refine OpsOk.consI rfl rfl rfl (.one rfl) rfl (fun hw12 => (GOk.fr (fr' := [(27, (.clo x3_6 [])), (28, (.v (.int .i32 t10.1)))]) ⟨DLe.of_eq (cT hw12).symm, DLe.of_eq (cT hw12).symm, trivial⟩ (have q : callable Try.prog x3_6 = true ∧ Vx.Fn Try.prog x3_6 [(.v (.int .i32 t10.1))] [] (.v (.bool t13)) [] := (fun h => selF h (fun e h => by rw [e]; exact ⟨cl17, utf_Start.ok h⟩) (fun h => selF h (fun e h => by rw [e]; exact ⟨cl19, utf_Part.ok h⟩) (fun h => nomatch h))) (ifT h14 hw12); GOk.call rfl rfl q.1 rfl q.2 rfl))) ?_
          refine OpsOk.consI rfl rfl rfl (.one rfl) rfl (fun hw12 => (GOk.fr (fr' := [(29, (.v (.bool t13)))]) ⟨DLe.of_eq (cT hw12).symm, trivial⟩ (VOk.g (VOk.not (b := t13) rfl rfl)))) ?_
          refine OpsOk.cons rfl (.v (VOk.to (VOk.pickI (b := (t10.2 == 0)) (p := true) (q := (!t13)) rfl rfl (fun hp15 => rfl) (fun hp15 => (cT (f_beq hp15)))) (pickOr (t10.2 == 0) (!t13))) rfl) ?_
          exact .done (.mk ⟨.same _, .same _, .same _, .same _, trivial⟩ trivial)
        refine Ok.test (b := ((t10.2 == 0) || (!t13))) rfl (fun hb16 => ?_) (fun hb16 => ?_)
        · replace H := ifT H hb16
          refine Ok.seq ?_
          refine Ok.region (σ' := ⟨[(2, (.v (.bool false)))], []⟩) ?_ ?_
          · refine OpsOk.cons rfl (.v (VOk.asg (d := (.v (.bool false))) rfl rfl) rfl) ?_
            exact .done (.mk ⟨.same _, trivial⟩ trivial)
          refine Ok.le (σ' := ⟨[(2, (.v (.bool false)))], []⟩) (.mk ⟨.same _, trivial⟩ trivial) ?_
          refine Ok.ret ?_
          obtain rfl := Option.some.inj H
          exact ⟨.inl rfl, rfl, rfl⟩
        · replace H := ifF H hb16
          refine Ok.le (σ' := ⟨[(0, (S a0)), (4, (.v (.int .i64 x4_7))), (6, (.v (.int .i64 t10.2)))], []⟩) (.mk ⟨.same _, .same _, .same _, trivial⟩ trivial) ?_
          refine Ok.skip ?_
          refine Ok.region (σ' := ⟨[(0, (S a0)), (4, (.v (.int .i64 (IntKind.i64.wrap (x4_7 + t10.2)))))], []⟩) ?_ ?_
          · refine OpsOk.cons rfl (.v (VOk.mv (d := (.v (.int .i64 x4_7))) rfl rfl) rfl) ?_
            refine OpsOk.cons rfl (.v (VOk.mv (d := (.v (.int .i64 t10.2))) rfl rfl) rfl) ?_
            refine OpsOk.cons rfl (.v (VOk.arith (op := .add) (k := .i64) (a := x4_7) (b := t10.2) rfl rfl rfl rfl) rfl) ?_
            refine OpsOk.cons rfl (.v (VOk.asg (d := (.v (.int .i64 (IntKind.i64.wrap (x4_7 + t10.2))))) rfl rfl) rfl) ?_
            exact .done (.mk ⟨.same _, .same _, trivial⟩ trivial)
          refine Ok.region (σ' := ⟨[(0, (S a0)), (3, (.clo 19 [])), (4, (.v (.int .i64 (IntKind.i64.wrap (x4_7 + t10.2)))))], []⟩) ?_ ?_
          · refine OpsOk.cons rfl (.v (VOk.asg (d := (.clo 19 [])) rfl rfl) rfl) ?_
            exact .done (.mk ⟨.same _, .same _, .same _, trivial⟩ trivial)
          exact ⟨m, Nat.lt_succ_self m, 19, (IntKind.i64.wrap (x4_7 + t10.2)), rfl, H⟩
      · replace H := ifF H hb17
        refine Ok.le (σ' := ⟨[], []⟩) (.mk trivial trivial) ?_
        refine Ok.exit ?_
        refine Ok.seq ?_
        refine Ok.region (σ' := ⟨[(2, (.v (.bool true)))], []⟩) ?_ ?_
        · refine OpsOk.cons rfl (.v (VOk.asg (d := (.v (.bool true))) rfl rfl) rfl) ?_
          exact .done (.mk ⟨.same _, trivial⟩ trivial)
        refine Ok.le (σ' := ⟨[(2, (.v (.bool true)))], []⟩) (.mk ⟨.same _, trivial⟩ trivial) ?_
        refine Ok.ret ?_
        obtain rfl := Option.some.inj H
        exact ⟨.inl rfl, rfl, rfl⟩

/-! watchbill/utf.Check: function 13 -/
def utf_Check.l0 (k : Nat) (a0 : Str) : Nat → Int → Option Int
  | 0, _ => none
  | m + 1, x3_1 => (if (decide (x3_1 < (a0.length : Int))) = true then ((utf_Rune k a0 x3_1).bind fun (t3 : Int × Int) => (if (t3.2 == 0) = true then some x3_1 else utf_Check.l0 k a0 m (IntKind.i64.wrap (x3_1 + t3.2)))) else some (-1))
def utf_Check (k : Nat) (a0 : Str) : Option Int := utf_Check.l0 k a0 k 0
theorem utf_Check.ok {k : Nat} {a0 : Str} {r : Int} (H : utf_Check k a0 = some r) : Vx.Fn Try.prog 13 [(S a0)] [] (.v (.int .i64 r)) [] := by
  unfold utf_Check at H
  refine Vx.Fn.of_ok Try.func13 rfl (Nat.le_of_ble_eq_true rfl) ?_
  refine Ok.seq ?_
  refine Ok.region (σ' := ⟨[(0, (S a0))], []⟩) ?_ ?_
  · refine OpsOk.cons rfl (.v (VOk.asg (d := (.v (.int .i64 0))) rfl rfl) rfl) ?_
    exact .done (.mk ⟨.same _, trivial⟩ trivial)
  refine Ok.seq ?_
  refine Ok.seq ?_
  refine Ok.region (σ' := ⟨[(0, (S a0)), (3, (.v (.int .i64 0)))], []⟩) ?_ ?_
  · refine OpsOk.cons rfl (.v (VOk.asg (d := (.v (.int .i64 0))) rfl rfl) rfl) ?_
    exact .done (.mk ⟨.same _, .same _, trivial⟩ trivial)
  refine Ok.block ?_
  refine Ok.le (σ' := ⟨[(0, (S a0)), (3, (.v (.int .i64 0)))], []⟩) (.mk ⟨.same _, .same _, trivial⟩ trivial) ?_
  refine Ok.loop (fun m σ => ∃ (x3_1 : Int), σ = ⟨[(0, (S a0)), (3, (.v (.int .i64 x3_1)))], []⟩ ∧ utf_Check.l0 k a0 m x3_1 = some r) k ⟨0, rfl, H⟩ ?_
  rintro m σ ⟨x3_1, rfl, H⟩
  cases m with
  | zero => exact absurd H (by simp [utf_Check.l0])
  | succ m =>
    unfold utf_Check.l0 at H
    refine Ok.seq ?_
    refine Ok.seq ?_
    refine Ok.region (σ' := ⟨[(0, (S a0)), (3, (.v (.int .i64 x3_1))), (9, (.v (.bool (decide (x3_1 < (a0.length : Int))))))], []⟩) ?_ ?_
    · refine OpsOk.cons rfl (.v (VOk.mv (d := (.v (.int .i64 x3_1))) rfl rfl) rfl) ?_
      refine OpsOk.cons rfl (.v (VOk.mv (d := (S a0)) rfl rfl) rfl) ?_
      refine OpsOk.cons rfl (.v (VOk.lenStr (s := a0) rfl Try.underlying9 rfl) rfl) ?_
      refine OpsOk.cons rfl (.v (VOk.arith (op := .lss) (k := .i64) (a := x3_1) (b := (a0.length : Int)) rfl rfl rfl rfl) rfl) ?_
      exact .done (.mk ⟨.same _, .same _, .same _, trivial⟩ trivial)
    refine Ok.test (b := (decide (x3_1 < (a0.length : Int)))) rfl (fun hb6 => ?_) (fun hb6 => ?_)
    · replace H := ifT H hb6
      refine Ok.le (σ' := ⟨[(0, (S a0)), (3, (.v (.int .i64 x3_1)))], []⟩) (.mk ⟨.same _, .same _, trivial⟩ trivial) ?_
      refine Ok.skip ?_
      refine Ok.block ?_
      refine Ok.seq ?_
      obtain ⟨t3, h4, H⟩ := bindE H
      refine Ok.region (σ' := ⟨[(0, (S a0)), (3, (.v (.int .i64 x3_1))), (5, (.v (.int .i64 t3.2)))], []⟩) ?_ ?_
      · refine OpsOk.cons rfl (.v (VOk.mv (d := (S a0)) rfl rfl) rfl) ?_
        refine OpsOk.cons rfl (.v (VOk.mv (d := (.v (.int .i64 x3_1))) rfl rfl) rfl) ?_
        refine OpsOk.cons rfl (.g (GOk.call rfl rfl cl10 rfl (utf_Rune.ok h4) rfl) rfl) ?_
        refine OpsOk.cons rfl (.v (VOk.mv (d := (.tup [(.v (.int .i32 t3.1)), (.v (.int .i64 t3.2))])) rfl rfl) rfl) ?_
        refine OpsOk.cons rfl (.v (VOk.extract (d := (.v (.int .i32 t3.1))) rfl rfl rfl) rfl) ?_
        refine OpsOk.cons rfl (.v (VOk.extract (d := (.v (.int .i64 t3.2))) rfl rfl rfl) rfl) ?_
        refine OpsOk.cons rfl (.v (VOk.asg (d := (.v (.int .i32 t3.1))) rfl rfl) rfl) ?_
        refine OpsOk.cons rfl (.v (VOk.asg (d := (.v (.int .i64 t3.2))) rfl rfl) rfl) ?_
        exact .done (.mk ⟨.same _, .same _, .same _, trivial⟩ trivial)
      refine Ok.seq ?_
      refine Ok.seq ?_
      refine Ok.region (σ' := ⟨[(0, (S a0)), (3, (.v (.int .i64 x3_1))), (5, (.v (.int .i64 t3.2))), (17, (.v (.bool (t3.2 == 0))))], []⟩) ?_ ?_
      · refine OpsOk.cons rfl (.v (VOk.mv (d := (.v (.int .i64 t3.2))) rfl rfl) rfl) ?_
        refine OpsOk.cons rfl (.v (VOk.arith (op := .eql) (k := .i64) (a := t3.2) (b := 0) rfl rfl rfl rfl) rfl) ?_
        exact .done (.mk ⟨.same _, .same _, .same _, .same _, trivial⟩ trivial)
      refine Ok.test (b := (t3.2 == 0)) rfl (fun hb5 => ?_) (fun hb5 => ?_)
      · replace H := ifT H hb5
        refine Ok.seq ?_
        refine Ok.region (σ' := ⟨[(2, (.v (.int .i64 x3_1)))], []⟩) ?_ ?_
        · refine OpsOk.cons rfl (.v (VOk.mv (d := (.v (.int .i64 x3_1))) rfl rfl) rfl) ?_
          refine OpsOk.cons rfl (.v (VOk.asg (d := (.v (.int .i64 x3_1))) rfl rfl) rfl) ?_
          exact .done (.mk ⟨.same _, trivial⟩ trivial)
        refine Ok.le (σ' := ⟨[(2, (.v (.int .i64 x3_1)))], []⟩) (.mk ⟨.same _, trivial⟩ trivial) ?_
        refine Ok.ret ?_
        obtain rfl := Option.some.inj H
        exact ⟨.inl rfl, rfl, rfl⟩
      · replace H := ifF H hb5
        refine Ok.le (σ' := ⟨[(0, (S a0)), (3, (.v (.int .i64 x3_1))), (5, (.v (.int .i64 t3.2)))], []⟩) (.mk ⟨.same _, .same _, .same _, trivial⟩ trivial) ?_
        refine Ok.skip ?_
        refine Ok.region (σ' := ⟨[(0, (S a0)), (3, (.v (.int .i64 (IntKind.i64.wrap (x3_1 + t3.2)))))], []⟩) ?_ ?_
        · refine OpsOk.cons rfl (.v (VOk.mv (d := (.v (.int .i64 x3_1))) rfl rfl) rfl) ?_
          refine OpsOk.cons rfl (.v (VOk.mv (d := (.v (.int .i64 t3.2))) rfl rfl) rfl) ?_
          refine OpsOk.cons rfl (.v (VOk.arith (op := .add) (k := .i64) (a := x3_1) (b := t3.2) rfl rfl rfl rfl) rfl) ?_
          refine OpsOk.cons rfl (.v (VOk.asg (d := (.v (.int .i64 (IntKind.i64.wrap (x3_1 + t3.2))))) rfl rfl) rfl) ?_
          exact .done (.mk ⟨.same _, .same _, trivial⟩ trivial)
        exact ⟨m, Nat.lt_succ_self m, (IntKind.i64.wrap (x3_1 + t3.2)), rfl, H⟩
    · replace H := ifF H hb6
      refine Ok.le (σ' := ⟨[], []⟩) (.mk trivial trivial) ?_
      refine Ok.exit ?_
      refine Ok.seq ?_
      refine Ok.region (σ' := ⟨[(2, (.v (.int .i64 (-1))))], []⟩) ?_ ?_
      · refine OpsOk.cons rfl (.v (VOk.asg (d := (.v (.int .i64 (-1)))) rfl rfl) rfl) ?_
        exact .done (.mk ⟨.same _, trivial⟩ trivial)
      refine Ok.le (σ' := ⟨[(2, (.v (.int .i64 (-1))))], []⟩) (.mk ⟨.same _, trivial⟩ trivial) ?_
      refine Ok.ret ?_
      obtain rfl := Option.some.inj H
      exact ⟨.inl rfl, rfl, rfl⟩

/-! watchbill/utf.Char: function 15 -/
def utf_Char (k : Nat) (a0 : Int) : Option Bool := ((utf_within k a0 ([(T_utf_span.mk 9 10), (T_utf_span.mk 13 13), (T_utf_span.mk 32 55295), (T_utf_span.mk 57344 65533), (T_utf_span.mk 65536 1114111)] : List T_utf_span)).bind fun (t1 : Bool) => some t1)
theorem utf_Char.ok {k : Nat} {a0 : Int} {r : Bool} (H : utf_Char k a0 = some r) : Vx.Fn Try.prog 15 [(.v (.int .i32 a0))] [] (.v (.bool r)) [] := by
  unfold utf_Char at H
  refine Vx.Fn.of_ok Try.func15 rfl (Nat.le_of_ble_eq_true rfl) ?_
  refine Ok.seq ?_
  refine Ok.region (σ' := ⟨[(0, (.v (.int .i32 a0)))], []⟩) ?_ ?_
  · refine OpsOk.cons rfl (.v (VOk.asg (d := (.v (.bool false))) rfl rfl) rfl) ?_
    exact .done (.mk ⟨.same _, trivial⟩ trivial)
  refine Ok.seq ?_
  obtain ⟨t1, h2, H⟩ := bindE H
  refine Ok.region (σ' := ⟨[(2, (.v (.bool t1)))], []⟩) ?_ ?_
  · refine OpsOk.cons rfl (.v (VOk.mv (d := (.v (.int .i32 a0))) rfl rfl) rfl) ?_
    refine OpsOk.cons rfl (.v (VOk.to (d' := (.agg (e_utf_span (T_utf_span.mk 9 10)))) (.build [none, none] [(0, 1), (1, 1)] rfl Try.underlying48 (fa48 Try.underlying48) zo48 rfl rfl) rfl) rfl) ?_
    refine OpsOk.cons rfl (.v (VOk.to (d' := (.agg (e_utf_span (T_utf_span.mk 13 13)))) (.build [none, none] [(0, 1), (1, 1)] rfl Try.underlying48 (fa48 Try.underlying48) zo48 rfl rfl) rfl) rfl) ?_
    refine OpsOk.cons rfl (.v (VOk.to (d' := (.agg (e_utf_span (T_utf_span.mk 32 55295)))) (.build [none, none] [(0, 1), (1, 1)] rfl Try.underlying48 (fa48 Try.underlying48) zo48 rfl rfl) rfl) rfl) ?_
    refine OpsOk.cons rfl (.v (VOk.to (d' := (.agg (e_utf_span (T_utf_span.mk 57344 65533)))) (.build [none, none] [(0, 1), (1, 1)] rfl Try.underlying48 (fa48 Try.underlying48) zo48 rfl rfl) rfl) rfl) ?_
    refine OpsOk.cons rfl (.v (VOk.to (d' := (.agg (e_utf_span (T_utf_span.mk 65536 1114111)))) (.build [none, none] [(0, 1), (1, 1)] rfl Try.underlying48 (fa48 Try.underlying48) zo48 rfl rfl) rfl) rfl) ?_
    refine OpsOk.cons rfl (.g (GOk.to (d' := (L 2 e_utf_span ([(T_utf_span.mk 9 10), (T_utf_span.mk 13 13), (T_utf_span.mk 32 55295), (T_utf_span.mk 57344 65533), (T_utf_span.mk 65536 1114111)] : List T_utf_span))) (GOk.lit rfl Try.underlying51 sz48 zs48 rfl rfl rfl rfl) rfl) rfl) ?_
    refine OpsOk.cons rfl (.g (GOk.call rfl rfl cl34 rfl (utf_within.ok h2) rfl) rfl) ?_
    refine OpsOk.cons rfl (.v (VOk.asg (d := (.v (.bool t1))) rfl rfl) rfl) ?_
    exact .done (.mk ⟨.same _, trivial⟩ trivial)
  refine Ok.le (σ' := ⟨[(2, (.v (.bool t1)))], []⟩) (.mk ⟨.same _, trivial⟩ trivial) ?_
  refine Ok.ret ?_
  obtain rfl := Option.some.inj H
  exact ⟨.inl rfl, rfl, rfl⟩

/-! watchbill/utf.Blank: function 21 -/
def utf_Blank (a0 : Int) : Option Bool := some ((((a0 == 32) || (a0 == 9)) || (a0 == 10)) || (a0 == 13))
theorem utf_Blank.ok {a0 : Int} {r : Bool} (H : utf_Blank a0 = some r) : Vx.Fn Try.prog 21 [(.v (.int .u8 a0))] [] (.v (.bool r)) [] := by
  unfold utf_Blank at H
  refine Vx.Fn.of_ok Try.func21 rfl (Nat.le_of_ble_eq_true rfl) ?_
  refine Ok.seq ?_
  refine Ok.region (σ' := ⟨[(0, (.v (.int .u8 a0)))], []⟩) ?_ ?_
  · refine OpsOk.cons rfl (.v (VOk.asg (d := (.v (.bool false))) rfl rfl) rfl) ?_
    exact .done (.mk ⟨.same _, trivial⟩ trivial)
  refine Ok.seq ?_
  refine Ok.region (σ' := ⟨[(2, (.v (.bool ((((a0 == 32) || (a0 == 9)) || (a0 == 10)) || (a0 == 13)))))], []⟩) ?_ ?_
  · refine OpsOk.cons rfl (.v (VOk.mv (d := (.v (.int .u8 a0))) rfl rfl) rfl) ?_
    refine OpsOk.cons rfl (.v (VOk.arith (op := .eql) (k := .u8) (a := a0) (b := 32) rfl rfl rfl rfl) rfl) ?_
    refine OpsOk.cons rfl (.v (VOk.mv (d := (.v (.bool (a0 == 32)))) rfl rfl) rfl) ?_
    refine OpsOk.consI rfl rfl rfl (.one rfl) rfl (fun hw1 => (VOk.g (VOk.mv (d := (.v (.int .u8 a0))) rfl rfl))) ?_
    refine OpsOk.consI rfl rfl rfl (.one rfl) rfl (fun hw1 => (GOk.fr (fr' := [(6, (.v (.int .u8 a0)))]) ⟨DLe.of_eq (cT hw1).symm, trivial⟩ (VOk.g (VOk.arith (op := .eql) (k := .u8) (a := a0) (b := 9) rfl rfl rfl rfl)))) ?_
    refine OpsOk.cons rfl (.v (VOk.to (VOk.pickI (b := (a0 == 32)) (p := true) (q := (a0 == 9)) rfl rfl (fun hp2 => rfl) (fun hp2 => (cT (f_beq hp2)))) (pickOr (a0 == 32) (a0 == 9))) rfl) ?_
    refine OpsOk.cons rfl (.v (VOk.mv (d := (.v (.bool ((a0 == 32) || (a0 == 9))))) rfl rfl) rfl) ?_
    refine OpsOk.consI rfl rfl rfl (.one rfl) rfl (fun hw3 => (VOk.g (VOk.mv (d := (.v (.int .u8 a0))) rfl rfl))) ?_
    refine OpsOk.consI rfl rfl rfl (.one rfl) rfl (fun hw3 => (GOk.fr (fr' := [(10, (.v (.int .u8 a0)))]) ⟨DLe.of_eq (cT hw3).symm, trivial⟩ (VOk.g (VOk.arith (op := .eql) (k := .u8) (a := a0) (b := 10) rfl rfl rfl rfl)))) ?_
    refine OpsOk.cons rfl (.v (VOk.to (VOk.pickI (b := ((a0 == 32) || (a0 == 9))) (p := true) (q := (a0 == 10)) rfl rfl (fun hp4 => rfl) (fun hp4 => (cT (f_beq hp4)))) (pickOr ((a0 == 32) || (a0 == 9)) (a0 == 10))) rfl) ?_
    refine OpsOk.cons rfl (.v (VOk.mv (d := (.v (.bool (((a0 == 32) || (a0 == 9)) || (a0 == 10))))) rfl rfl) rfl) ?_
    refine OpsOk.consI rfl rfl rfl (.one rfl) rfl (fun hw5 => (VOk.g (VOk.mv (d := (.v (.int .u8 a0))) rfl rfl))) ?_
    refine OpsOk.consI rfl rfl rfl (.one rfl) rfl (fun hw5 => (GOk.fr (fr' := [(14, (.v (.int .u8 a0)))]) ⟨DLe.of_eq (cT hw5).symm, trivial⟩ (VOk.g (VOk.arith (op := .eql) (k := .u8) (a := a0) (b := 13) rfl rfl rfl rfl)))) ?_
    refine OpsOk.cons rfl (.v (VOk.to (VOk.pickI (b := (((a0 == 32) || (a0 == 9)) || (a0 == 10))) (p := true) (q := (a0 == 13)) rfl rfl (fun hp6 => rfl) (fun hp6 => (cT (f_beq hp6)))) (pickOr (((a0 == 32) || (a0 == 9)) || (a0 == 10)) (a0 == 13))) rfl) ?_
    refine OpsOk.cons rfl (.v (VOk.asg (d := (.v (.bool ((((a0 == 32) || (a0 == 9)) || (a0 == 10)) || (a0 == 13))))) rfl rfl) rfl) ?_
    exact .done (.mk ⟨.same _, trivial⟩ trivial)
  refine Ok.le (σ' := ⟨[(2, (.v (.bool ((((a0 == 32) || (a0 == 9)) || (a0 == 10)) || (a0 == 13)))))], []⟩) (.mk ⟨.same _, trivial⟩ trivial) ?_
  refine Ok.ret ?_
  obtain rfl := Option.some.inj H
  exact ⟨.inl rfl, rfl, rfl⟩

/-! watchbill/utf.Trim: function 25 -/
def utf_Trim.l1 (k : Nat) : Nat → Str → Option Str
  | 0, _ => none
  | m + 1, x0_9 => (if (((!(x0_9 == ([] : Str))) == true) = true → (0 : Int) ≤ (IntKind.i64.wrap ((x0_9.length : Int) - 1)) ∧ (IntKind.i64.wrap ((x0_9.length : Int) - 1)) < (x0_9.length : Int)) then (((if ((!(x0_9 == ([] : Str))) == true) = true then utf_Blank (bt x0_9 (IntKind.i64.wrap ((x0_9.length : Int) - 1))) else some default)).bind fun (t13 : Bool) => (if ((!(x0_9 == ([] : Str))) && t13) = true then (if (0 : Int) ≤ 0 ∧ 0 ≤ (IntKind.i64.wrap ((x0_9.length : Int) - 1)) ∧ (IntKind.i64.wrap ((x0_9.length : Int) - 1)) ≤ (x0_9.length : Int) then utf_Trim.l1 k m (sl x0_9 0 (IntKind.i64.wrap ((x0_9.length : Int) - 1))) else none) else some x0_9)) else none)
def utf_Trim.l0 (k : Nat) : Nat → Str → Option Str
  | 0, _ => none
  | m + 1, x0_1 => (if (((!(x0_1 == ([] : Str))) == true) = true → (0 : Int) ≤ 0 ∧ 0 < (x0_1.length : Int)) then (((if ((!(x0_1 == ([] : Str))) == true) = true then utf_Blank (bt x0_1 0) else some default)).bind fun (t5 : Bool) => (if ((!(x0_1 == ([] : Str))) && t5) = true then (if (0 : Int) ≤ 1 ∧ 1 ≤ (x0_1.length : Int) ∧ (x0_1.length : Int) ≤ (x0_1.length : Int) then utf_Trim.l0 k m (sl x0_1 1 (x0_1.length : Int)) else none) else utf_Trim.l1 k k x0_1)) else none)
def utf_Trim (k : Nat) (a0 : Str) : Option Str := utf_Trim.l0 k k a0
theorem utf_Trim.ok {k : Nat} {a0 : Str} {r : Str} (H : utf_Trim k a0 = some r) : Vx.Fn Try.prog 25 [(S a0)] [] (S r) [] := by
  unfold utf_Trim at H
  refine Vx.Fn.of_ok Try.func25 rfl (Nat.le_of_ble_eq_true rfl) ?_
  refine Ok.seq ?_
  refine Ok.region (σ' := ⟨[(0, (S a0))], []⟩) ?_ ?_
  · refine OpsOk.cons rfl (.v (VOk.asg (d := (S ([] : Str))) rfl rfl) rfl) ?_
    exact .done (.mk ⟨.same _, trivial⟩ trivial)
  refine Ok.seq ?_
  refine Ok.block ?_
  refine Ok.le (σ' := ⟨[(0, (S a0))], []⟩) (.mk ⟨.same _, trivial⟩ trivial) ?_
  refine Ok.loop (fun m σ => ∃ (x0_1 : Str), σ = ⟨[(0, (S x0_1))], []⟩ ∧ utf_Trim.l0 k m x0_1 = some r) k ⟨a0, rfl, H⟩ ?_
  rintro m σ ⟨x0_1, rfl, H⟩
  cases m with
  | zero => exact absurd H (by simp [utf_Trim.l0])
  | succ m =>
    unfold utf_Trim.l0 at H
    refine Ok.seq ?_
    refine Ok.seq ?_
    obtain ⟨c4, H⟩ := assertE H
    obtain ⟨t5, h6, H⟩ := bindE H
    refine Ok.region (σ' := ⟨[(0, (S x0_1)), (9, (.v (.bool ((!(x0_1 == ([] : Str))) && t5))))], []⟩) ?_ ?_
    · refine OpsOk.cons rfl (.v (VOk.mv (d := (S x0_1)) rfl rfl) rfl) ?_
      refine OpsOk.cons rfl (.v (VOk.strOp (op := .neq) (a := x0_1) (b := ([] : Str)) rfl rfl rfl rfl) rfl) ?_
      refine OpsOk.cons rfl (.v (VOk.mv (d := (.v (.bool (!(x0_1 == ([] : Str)))))) rfl rfl) rfl) ?_
      refine OpsOk.consI rfl rfl rfl (.one rfl) rfl (fun hw3 => (VOk.g (VOk.mv (d := (S x0_1)) rfl rfl))) ?_
      refine OpsOk.consI rfl rfl rfl (.one rfl) rfl (fun hw3 => (GOk.fr (fr' := [(6, (S x0_1))]) ⟨DLe.of_eq (cT hw3).symm, trivial⟩ (VOk.g (VOk.indexStr (s := x0_1) (i := 0) rfl Try.underlying9 rfl rfl (c4 hw3))))) ?_
      refine OpsOk.consI rfl rfl rfl (.one rfl) rfl (fun hw3 => (GOk.fr (fr' := [(7, (.v (.int .u8 (bt x0_1 0))))]) ⟨DLe.of_eq (cT hw3).symm, trivial⟩ (GOk.call rfl rfl cl21 rfl (utf_Blank.ok (ifT h6 hw3)) rfl))) ?_
      refine OpsOk.cons rfl (.v (VOk.to (VOk.pickI (b := (!(x0_1 == ([] : Str)))) (p := t5) (q := false) rfl rfl (fun hp7 => (cT (t_beq hp7))) (fun hp7 => rfl)) (pickAnd (!(x0_1 == ([] : Str))) t5)) rfl) ?_
      exact .done (.mk ⟨.same _, .same _, trivial⟩ trivial)
    refine Ok.test (b := ((!(x0_1 == ([] : Str))) && t5)) rfl (fun hb18 => ?_) (fun hb18 => ?_)
    · replace H := ifT H hb18
      refine Ok.le (σ' := ⟨[(0, (S x0_1))], []⟩) (.mk ⟨.same _, trivial⟩ trivial) ?_
      refine Ok.skip ?_
      refine Ok.block ?_
      obtain ⟨c8, H⟩ := assertE H
      refine Ok.region (σ' := ⟨[(0, (S (sl x0_1 1 (x0_1.length : Int))))], []⟩) ?_ ?_
      · refine OpsOk.cons rfl (.v (VOk.mv (d := (S x0_1)) rfl rfl) rfl) ?_
        refine OpsOk.cons rfl (.v (VOk.sliceStr (s := x0_1) (l := 1) (h := (x0_1.length : Int)) rfl Try.underlying9 rfl rfl rfl c8) rfl) ?_
        refine OpsOk.cons rfl (.v (VOk.asg (d := (S (sl x0_1 1 (x0_1.length : Int)))) rfl rfl) rfl) ?_
        exact .done (.mk ⟨.same _, trivial⟩ trivial)
      exact ⟨m, Nat.lt_succ_self m, (sl x0_1 1 (x0_1.length : Int)), rfl, H⟩
    · replace H := ifF H hb18
      refine Ok.le (σ' := ⟨[(0, (S x0_1))], []⟩) (.mk ⟨.same _, trivial⟩ trivial) ?_
      refine Ok.exit ?_
      refine Ok.seq ?_
      refine Ok.block ?_
      refine Ok.le (σ' := ⟨[(0, (S x0_1))], []⟩) (.mk ⟨.same _, trivial⟩ trivial) ?_
      refine Ok.loop (fun m σ => ∃ (x0_9 : Str), σ = ⟨[(0, (S x0_9))], []⟩ ∧ utf_Trim.l1 k m x0_9 = some r) k ⟨x0_1, rfl, H⟩ ?_
      rintro m σ ⟨x0_9, rfl, H⟩
      cases m with
      | zero => exact absurd H (by simp [utf_Trim.l1])
      | succ m =>
        unfold utf_Trim.l1 at H
        refine Ok.seq ?_
        refine Ok.seq ?_
        obtain ⟨c12, H⟩ := assertE H
        obtain ⟨t13, h14, H⟩ := bindE H
        refine Ok.region (σ' := ⟨[(0, (S x0_9)), (21, (.v (.bool ((!(x0_9 == ([] : Str))) && t13))))], []⟩) ?_ ?_
        · refine OpsOk.cons rfl (.v (VOk.mv (d := (S x0_9)) rfl rfl) rfl) ?_
          refine OpsOk.cons rfl (.v (VOk.strOp (op := .neq) (a := x0_9) (b := ([] : Str)) rfl rfl rfl rfl) rfl) ?_
          refine OpsOk.cons rfl (.v (VOk.mv (d := (.v (.bool (!(x0_9 == ([] : Str)))))) rfl rfl) rfl) ?_
          refine OpsOk.consI rfl rfl rfl (.one rfl) rfl (fun hw11 => (VOk.g (VOk.mv (d := (S x0_9)) rfl rfl))) ?_
          refine OpsOk.consI rfl rfl rfl (.one rfl) rfl (fun hw11 => (VOk.g (VOk.mv (d := (S x0_9)) rfl rfl))) ?_
          refine OpsOk.consI rfl rfl rfl (.one rfl) rfl (fun hw11 => (GOk.fr (fr' := [(16, (S x0_9))]) ⟨DLe.of_eq (cT hw11).symm, trivial⟩ (VOk.g (VOk.lenStr (s := x0_9) rfl Try.underlying9 rfl)))) ?_
          refine OpsOk.consI rfl rfl rfl (.one rfl) rfl (fun hw11 => (GOk.fr (fr' := [(17, (.v (.int .i64 (x0_9.length : Int))))]) ⟨DLe.of_eq (cT hw11).symm, trivial⟩ (VOk.g (VOk.arith (op := .sub) (k := .i64) (a := (x0_9.length : Int)) (b := 1) rfl rfl rfl rfl)))) ?_
          refine OpsOk.consI rfl rfl rfl (.one rfl) rfl (fun hw11 => (GOk.fr (fr' := [(15, (S x0_9)), (18, (.v (.int .i64 (IntKind.i64.wrap ((x0_9.length : Int) - 1)))))]) ⟨DLe.of_eq (cT hw11).symm, DLe.of_eq (cT hw11).symm, trivial⟩ (VOk.g (VOk.indexStr (s := x0_9) (i := (IntKind.i64.wrap ((x0_9.length : Int) - 1))) rfl Try.underlying9 rfl rfl (c12 hw11))))) ?_
          refine OpsOk.consI rfl rfl rfl (.one rfl) rfl (fun hw11 => (GOk.fr (fr' := [(19, (.v (.int .u8 (bt x0_9 (IntKind.i64.wrap ((x0_9.length : Int) - 1))))))]) ⟨DLe.of_eq (cT hw11).symm, trivial⟩ (GOk.call rfl rfl cl21 rfl (utf_Blank.ok (ifT h14 hw11)) rfl))) ?_
          refine OpsOk.cons rfl (.v (VOk.to (VOk.pickI (b := (!(x0_9 == ([] : Str)))) (p := t13) (q := false) rfl rfl (fun hp15 => (cT (t_beq hp15))) (fun hp15 => rfl)) (pickAnd (!(x0_9 == ([] : Str))) t13)) rfl) ?_
          exact .done (.mk ⟨.same _, .same _, trivial⟩ trivial)
        refine Ok.test (b := ((!(x0_9 == ([] : Str))) && t13)) rfl (fun hb17 => ?_) (fun hb17 => ?_)
        · replace H := ifT H hb17
          refine Ok.le (σ' := ⟨[(0, (S x0_9))], []⟩) (.mk ⟨.same _, trivial⟩ trivial) ?_
          refine Ok.skip ?_
          refine Ok.block ?_
          obtain ⟨c16, H⟩ := assertE H
          refine Ok.region (σ' := ⟨[(0, (S (sl x0_9 0 (IntKind.i64.wrap ((x0_9.length : Int) - 1)))))], []⟩) ?_ ?_
          · refine OpsOk.cons rfl (.v (VOk.mv (d := (S x0_9)) rfl rfl) rfl) ?_
            refine OpsOk.cons rfl (.v (VOk.mv (d := (S x0_9)) rfl rfl) rfl) ?_
            refine OpsOk.cons rfl (.v (VOk.lenStr (s := x0_9) rfl Try.underlying9 rfl) rfl) ?_
            refine OpsOk.cons rfl (.v (VOk.arith (op := .sub) (k := .i64) (a := (x0_9.length : Int)) (b := 1) rfl rfl rfl rfl) rfl) ?_
            refine OpsOk.cons rfl (.v (VOk.sliceStr (s := x0_9) (l := 0) (h := (IntKind.i64.wrap ((x0_9.length : Int) - 1))) rfl Try.underlying9 rfl rfl rfl c16) rfl) ?_
            refine OpsOk.cons rfl (.v (VOk.asg (d := (S (sl x0_9 0 (IntKind.i64.wrap ((x0_9.length : Int) - 1))))) rfl rfl) rfl) ?_
            exact .done (.mk ⟨.same _, trivial⟩ trivial)
          exact ⟨m, Nat.lt_succ_self m, (sl x0_9 0 (IntKind.i64.wrap ((x0_9.length : Int) - 1))), rfl, H⟩
        · replace H := ifF H hb17
          refine Ok.le (σ' := ⟨[(0, (S x0_9))], []⟩) (.mk ⟨.same _, trivial⟩ trivial) ?_
          refine Ok.exit ?_
          refine Ok.seq ?_
          refine Ok.region (σ' := ⟨[(2, (S x0_9))], []⟩) ?_ ?_
          · refine OpsOk.cons rfl (.v (VOk.mv (d := (S x0_9)) rfl rfl) rfl) ?_
            refine OpsOk.cons rfl (.v (VOk.asg (d := (S x0_9)) rfl rfl) rfl) ?_
            exact .done (.mk ⟨.same _, trivial⟩ trivial)
          refine Ok.le (σ' := ⟨[(2, (S x0_9))], []⟩) (.mk ⟨.same _, trivial⟩ trivial) ?_
          refine Ok.ret ?_
          obtain rfl := Option.some.inj H
          exact ⟨.inl rfl, rfl, rfl⟩

/-! watchbill/watchbilllaw01.awake: function 9 -/
def watchbilllaw01_awake (k : Nat) : Option Bool := ((utf_Rune k ([195, 169] : Str) 0).bind fun (t1 : Int × Int) => ((utf_Rune k ([192, 128] : Str) 0).bind fun (t3 : Int × Int) => ((utf_Put 233).bind fun (t5 : Str) => (((if (((((t5 == ([195, 169] : Str)) && (t1.1 == 233)) && (t1.2 == 2)) && (t3.2 == 0)) == true) = true then utf_Name k ([97, 45, 49] : Str) else some default)).bind fun (t14 : Bool) => (((if ((((((t5 == ([195, 169] : Str)) && (t1.1 == 233)) && (t1.2 == 2)) && (t3.2 == 0)) && t14) == true) = true then utf_Name k ([45, 97] : Str) else some default)).bind fun (t18 : Bool) => (((if (((((((t5 == ([195, 169] : Str)) && (t1.1 == 233)) && (t1.2 == 2)) && (t3.2 == 0)) && t14) && (!t18)) == true) = true then utf_Check k ([97, 255] : Str) else some default)).bind fun (t22 : Int) => (((if ((((((((t5 == ([195, 169] : Str)) && (t1.1 == 233)) && (t1.2 == 2)) && (t3.2 == 0)) && t14) && (!t18)) && (t22 == 1)) == true) = true then utf_Char k 9 else some default)).bind fun (t26 : Bool) => (((if (((((((((t5 == ([195, 169] : Str)) && (t1.1 == 233)) && (t1.2 == 2)) && (t3.2 == 0)) && t14) && (!t18)) && (t22 == 1)) && t26) == true) = true then utf_Blank 32 else some default)).bind fun (t30 : Bool) => (((if ((((((((((t5 == ([195, 169] : Str)) && (t1.1 == 233)) && (t1.2 == 2)) && (t3.2 == 0)) && t14) && (!t18)) && (t22 == 1)) && t26) && t30) == true) = true then utf_Trim k ([32, 97, 32] : Str) else some default)).bind fun (t34 : Str) => some ((((((((((t5 == ([195, 169] : Str)) && (t1.1 == 233)) && (t1.2 == 2)) && (t3.2 == 0)) && t14) && (!t18)) && (t22 == 1)) && t26) && t30) && (t34 == ([97] : Str))))))))))))
theorem watchbilllaw01_awake.ok {k : Nat} {r : Bool} (H : watchbilllaw01_awake k = some r) : Vx.Fn Try.prog 9 [] [] (.v (.bool r)) [] := by
  unfold watchbilllaw01_awake at H
  refine Vx.Fn.of_ok Try.func9 rfl (Nat.le_of_ble_eq_true rfl) ?_
  refine Ok.seq ?_
  refine Ok.region (σ' := ⟨[], []⟩) ?_ ?_
  · refine OpsOk.cons rfl (.v (VOk.asg (d := (.v (.bool false))) rfl rfl) rfl) ?_
    exact .done (.mk trivial trivial)
  refine Ok.seq ?_
  obtain ⟨t1, h2, H⟩ := bindE H
  refine Ok.region (σ' := ⟨[(1, (.v (.int .i32 t1.1))), (2, (.v (.int .i64 t1.2)))], []⟩) ?_ ?_
  · refine OpsOk.cons rfl (.g (GOk.call rfl rfl cl10 rfl (utf_Rune.ok h2) rfl) rfl) ?_
    refine OpsOk.cons rfl (.v (VOk.mv (d := (.tup [(.v (.int .i32 t1.1)), (.v (.int .i64 t1.2))])) rfl rfl) rfl) ?_
    refine OpsOk.cons rfl (.v (VOk.extract (d := (.v (.int .i32 t1.1))) rfl rfl rfl) rfl) ?_
    refine OpsOk.cons rfl (.v (VOk.extract (d := (.v (.int .i64 t1.2))) rfl rfl rfl) rfl) ?_
    refine OpsOk.cons rfl (.v (VOk.asg (d := (.v (.int .i32 t1.1))) rfl rfl) rfl) ?_
    refine OpsOk.cons rfl (.v (VOk.asg (d := (.v (.int .i64 t1.2))) rfl rfl) rfl) ?_
    exact .done (.mk ⟨.same _, .same _, trivial⟩ trivial)
  refine Ok.seq ?_
  obtain ⟨t3, h4, H⟩ := bindE H
  refine Ok.region (σ' := ⟨[(1, (.v (.int .i32 t1.1))), (2, (.v (.int .i64 t1.2))), (4, (.v (.int .i64 t3.2)))], []⟩) ?_ ?_
  · refine OpsOk.cons rfl (.g (GOk.call rfl rfl cl10 rfl (utf_Rune.ok h4) rfl) rfl) ?_
    refine OpsOk.cons rfl (.v (VOk.mv (d := (.tup [(.v (.int .i32 t3.1)), (.v (.int .i64 t3.2))])) rfl rfl) rfl) ?_
    refine OpsOk.cons rfl (.v (VOk.extract (d := (.v (.int .i32 t3.1))) rfl rfl rfl) rfl) ?_
    refine OpsOk.cons rfl (.v (VOk.extract (d := (.v (.int .i64 t3.2))) rfl rfl rfl) rfl) ?_
    refine OpsOk.cons rfl (.v (VOk.asg (d := (.v (.int .i32 t3.1))) rfl rfl) rfl) ?_
    refine OpsOk.cons rfl (.v (VOk.asg (d := (.v (.int .i64 t3.2))) rfl rfl) rfl) ?_
    exact .done (.mk ⟨.same _, .same _, .same _, trivial⟩ trivial)
  refine Ok.seq ?_
  obtain ⟨t5, h6, H⟩ := bindE H
  obtain ⟨t14, h15, H⟩ := bindE H
  obtain ⟨t18, h19, H⟩ := bindE H
  obtain ⟨t22, h23, H⟩ := bindE H
  obtain ⟨t26, h27, H⟩ := bindE H
  obtain ⟨t30, h31, H⟩ := bindE H
  obtain ⟨t34, h35, H⟩ := bindE H
  refine Ok.region (σ' := ⟨[(0, (.v (.bool ((((((((((t5 == ([195, 169] : Str)) && (t1.1 == 233)) && (t1.2 == 2)) && (t3.2 == 0)) && t14) && (!t18)) && (t22 == 1)) && t26) && t30) && (t34 == ([97] : Str))))))], []⟩) ?_ ?_
  · refine OpsOk.cons rfl (.g (GOk.call rfl rfl cl12 rfl (utf_Put.ok h6) rfl) rfl) ?_
    refine OpsOk.cons rfl (.v (VOk.strOp (op := .eql) (a := t5) (b := ([195, 169] : Str)) rfl rfl rfl rfl) rfl) ?_
    refine OpsOk.cons rfl (.v (VOk.mv (d := (.v (.bool (t5 == ([195, 169] : Str))))) rfl rfl) rfl) ?_
    refine OpsOk.consI rfl rfl rfl (.one rfl) rfl (fun hw7 => (VOk.g (VOk.mv (d := (.v (.int .i32 t1.1))) rfl rfl))) ?_
    refine OpsOk.consI rfl rfl rfl (.one rfl) rfl (fun hw7 => (GOk.fr (fr' := [(16, (.v (.int .i32 t1.1)))]) ⟨DLe.of_eq (cT hw7).symm, trivial⟩ (VOk.g (VOk.arith (op := .eql) (k := .i32) (a := t1.1) (b := 233) rfl rfl rfl rfl)))) ?_
    refine OpsOk.cons rfl (.v (VOk.to (VOk.pickI (b := (t5 == ([195, 169] : Str))) (p := (t1.1 == 233)) (q := false) rfl rfl (fun hp8 => (cT (t_beq hp8))) (fun hp8 => rfl)) (pickAnd (t5 == ([195, 169] : Str)) (t1.1 == 233))) rfl) ?_
    refine OpsOk.cons rfl (.v (VOk.mv (d := (.v (.bool ((t5 == ([195, 169] : Str)) && (t1.1 == 233))))) rfl rfl) rfl) ?_
    refine OpsOk.consI rfl rfl rfl (.one rfl) rfl (fun hw9 => (VOk.g (VOk.mv (d := (.v (.int .i64 t1.2))) rfl rfl))) ?_
    refine OpsOk.consI rfl rfl rfl (.one rfl) rfl (fun hw9 => (GOk.fr (fr' := [(20, (.v (.int .i64 t1.2)))]) ⟨DLe.of_eq (cT hw9).symm, trivial⟩ (VOk.g (VOk.arith (op := .eql) (k := .i64) (a := t1.2) (b := 2) rfl rfl rfl rfl)))) ?_
    refine OpsOk.cons rfl (.v (VOk.to (VOk.pickI (b := ((t5 == ([195, 169] : Str)) && (t1.1 == 233))) (p := (t1.2 == 2)) (q := false) rfl rfl (fun hp10 => (cT (t_beq hp10))) (fun hp10 => rfl)) (pickAnd ((t5 == ([195, 169] : Str)) && (t1.1 == 233)) (t1.2 == 2))) rfl) ?_
    refine OpsOk.cons rfl (.v (VOk.mv (d := (.v (.bool (((t5 == ([195, 169] : Str)) && (t1.1 == 233)) && (t1.2 == 2))))) rfl rfl) rfl) ?_
    refine OpsOk.consI rfl rfl rfl (.one rfl) rfl (fun hw11 => (VOk.g (VOk.mv (d := (.v (.int .i64 t3.2))) rfl rfl))) ?_
    refine OpsOk.consI rfl rfl rfl (.one rfl) rfl (fun hw11 => (GOk.fr (fr' := [(24, (.v (.int .i64 t3.2)))]) ⟨DLe.of_eq (cT hw11).symm, trivial⟩ (VOk.g (VOk.arith (op := .eql) (k := .i64) (a := t3.2) (b := 0) rfl rfl rfl rfl)))) ?_
    refine OpsOk.cons rfl (.v (VOk.to (VOk.pickI (b := (((t5 == ([195, 169] : Str)) && (t1.1 == 233)) && (t1.2 == 2))) (p := (t3.2 == 0)) (q := false) rfl rfl (fun hp12 => (cT (t_beq hp12))) (fun hp12 => rfl)) (pickAnd (((t5 == ([195, 169] : Str)) && (t1.1 == 233)) && (t1.2 == 2)) (t3.2 == 0))) rfl) ?_
    refine OpsOk.cons rfl (.v (VOk.mv (d := (.v (.bool ((((t5 == ([195, 169] : Str)) && (t1.1 == 233)) && (t1.2 == 2)) && (t3.2 == 0))))) rfl rfl) rfl) ?_
    refine OpsOk.consI rfl rfl rfl (.one rfl) rfl (fun hw13 => (GOk.call rfl rfl cl23 rfl (utf_Name.ok (ifT h15 hw13)) rfl)) ?_
    refine OpsOk.cons rfl (.v (VOk.to (VOk.pickI (b := ((((t5 == ([195, 169] : Str)) && (t1.1 == 233)) && (t1.2 == 2)) && (t3.2 == 0))) (p := t14) (q := false) rfl rfl (fun hp16 => (cT (t_beq hp16))) (fun hp16 => rfl)) (pickAnd ((((t5 == ([195, 169] : Str)) && (t1.1 == 233)) && (t1.2 == 2)) && (t3.2 == 0)) t14)) rfl) ?_
    refine OpsOk.cons rfl (.v (VOk.mv (d := (.v (.bool (((((t5 == ([195, 169] : Str)) && (t1.1 == 233)) && (t1.2 == 2)) && (t3.2 == 0)) && t14)))) rfl rfl) rfl) ?_
    refine OpsOk.consI rfl rfl rfl (.one rfl) rfl (fun hw17 => (GOk.call rfl rfl cl23 rfl (utf_Name.ok (ifT h19 hw17)) rfl)) ?_
    refine OpsOk.consI rfl rfl rfl (.one rfl) rfl (fun hw17 => (GOk.fr (fr' := [(31, (.v (.bool t18)))]) ⟨DLe.of_eq (cT hw17).symm, trivial⟩ (VOk.g (VOk.not (b := t18) rfl rfl)))) ?_
    refine OpsOk.cons rfl (.v (VOk.to (VOk.pickI (b := (((((t5 == ([195, 169] : Str)) && (t1.1 == 233)) && (t1.2 == 2)) && (t3.2 == 0)) && t14)) (p := (!t18)) (q := false) rfl rfl (fun hp20 => (cT (t_beq hp20))) (fun hp20 => rfl)) (pickAnd (((((t5 == ([195, 169] : Str)) && (t1.1 == 233)) && (t1.2 == 2)) && (t3.2 == 0)) && t14) (!t18))) rfl) ?_
    refine OpsOk.cons rfl (.v (VOk.mv (d := (.v (.bool ((((((t5 == ([195, 169] : Str)) && (t1.1 == 233)) && (t1.2 == 2)) && (t3.2 == 0)) && t14) && (!t18))))) rfl rfl) rfl) ?_
    refine OpsOk.consI rfl rfl rfl (.one rfl) rfl (fun hw21 => (GOk.call rfl rfl cl13 rfl (utf_Check.ok (ifT h23 hw21)) rfl)) ?_
    refine OpsOk.consI rfl rfl rfl (.one rfl) rfl (fun hw21 => (GOk.fr (fr' := [(35, (.v (.int .i64 t22)))]) ⟨DLe.of_eq (cT hw21).symm, trivial⟩ (VOk.g (VOk.arith (op := .eql) (k := .i64) (a := t22) (b := 1) rfl rfl rfl rfl)))) ?_
    refine OpsOk.cons rfl (.v (VOk.to (VOk.pickI (b := ((((((t5 == ([195, 169] : Str)) && (t1.1 == 233)) && (t1.2 == 2)) && (t3.2 == 0)) && t14) && (!t18))) (p := (t22 == 1)) (q := false) rfl rfl (fun hp24 => (cT (t_beq hp24))) (fun hp24 => rfl)) (pickAnd ((((((t5 == ([195, 169] : Str)) && (t1.1 == 233)) && (t1.2 == 2)) && (t3.2 == 0)) && t14) && (!t18)) (t22 == 1))) rfl) ?_
    refine OpsOk.cons rfl (.v (VOk.mv (d := (.v (.bool (((((((t5 == ([195, 169] : Str)) && (t1.1 == 233)) && (t1.2 == 2)) && (t3.2 == 0)) && t14) && (!t18)) && (t22 == 1))))) rfl rfl) rfl) ?_
    refine OpsOk.consI rfl rfl rfl (.one rfl) rfl (fun hw25 => (GOk.call rfl rfl cl15 rfl (utf_Char.ok (ifT h27 hw25)) rfl)) ?_
    refine OpsOk.cons rfl (.v (VOk.to (VOk.pickI (b := (((((((t5 == ([195, 169] : Str)) && (t1.1 == 233)) && (t1.2 == 2)) && (t3.2 == 0)) && t14) && (!t18)) && (t22 == 1))) (p := t26) (q := false) rfl rfl (fun hp28 => (cT (t_beq hp28))) (fun hp28 => rfl)) (pickAnd (((((((t5 == ([195, 169] : Str)) && (t1.1 == 233)) && (t1.2 == 2)) && (t3.2 == 0)) && t14) && (!t18)) && (t22 == 1)) t26)) rfl) ?_
    refine OpsOk.cons rfl (.v (VOk.mv (d := (.v (.bool ((((((((t5 == ([195, 169] : Str)) && (t1.1 == 233)) && (t1.2 == 2)) && (t3.2 == 0)) && t14) && (!t18)) && (t22 == 1)) && t26)))) rfl rfl) rfl) ?_
    refine OpsOk.consI rfl rfl rfl (.one rfl) rfl (fun hw29 => (GOk.call rfl rfl cl21 rfl (utf_Blank.ok (ifT h31 hw29)) rfl)) ?_
    refine OpsOk.cons rfl (.v (VOk.to (VOk.pickI (b := ((((((((t5 == ([195, 169] : Str)) && (t1.1 == 233)) && (t1.2 == 2)) && (t3.2 == 0)) && t14) && (!t18)) && (t22 == 1)) && t26)) (p := t30) (q := false) rfl rfl (fun hp32 => (cT (t_beq hp32))) (fun hp32 => rfl)) (pickAnd ((((((((t5 == ([195, 169] : Str)) && (t1.1 == 233)) && (t1.2 == 2)) && (t3.2 == 0)) && t14) && (!t18)) && (t22 == 1)) && t26) t30)) rfl) ?_
    refine OpsOk.cons rfl (.v (VOk.mv (d := (.v (.bool (((((((((t5 == ([195, 169] : Str)) && (t1.1 == 233)) && (t1.2 == 2)) && (t3.2 == 0)) && t14) && (!t18)) && (t22 == 1)) && t26) && t30)))) rfl rfl) rfl) ?_
    refine OpsOk.consI rfl rfl rfl (.one rfl) rfl (fun hw33 => (GOk.call rfl rfl cl25 rfl (utf_Trim.ok (ifT h35 hw33)) rfl)) ?_
    refine OpsOk.consI rfl rfl rfl (.one rfl) rfl (fun hw33 => (GOk.fr (fr' := [(45, (S t34))]) ⟨DLe.of_eq (cT hw33).symm, trivial⟩ (VOk.g (VOk.strOp (op := .eql) (a := t34) (b := ([97] : Str)) rfl rfl rfl rfl)))) ?_
    refine OpsOk.cons rfl (.v (VOk.to (VOk.pickI (b := (((((((((t5 == ([195, 169] : Str)) && (t1.1 == 233)) && (t1.2 == 2)) && (t3.2 == 0)) && t14) && (!t18)) && (t22 == 1)) && t26) && t30)) (p := (t34 == ([97] : Str))) (q := false) rfl rfl (fun hp36 => (cT (t_beq hp36))) (fun hp36 => rfl)) (pickAnd (((((((((t5 == ([195, 169] : Str)) && (t1.1 == 233)) && (t1.2 == 2)) && (t3.2 == 0)) && t14) && (!t18)) && (t22 == 1)) && t26) && t30) (t34 == ([97] : Str)))) rfl) ?_
    refine OpsOk.cons rfl (.v (VOk.asg (d := (.v (.bool ((((((((((t5 == ([195, 169] : Str)) && (t1.1 == 233)) && (t1.2 == 2)) && (t3.2 == 0)) && t14) && (!t18)) && (t22 == 1)) && t26) && t30) && (t34 == ([97] : Str)))))) rfl rfl) rfl) ?_
    exact .done (.mk ⟨.same _, trivial⟩ trivial)
  refine Ok.le (σ' := ⟨[(0, (.v (.bool ((((((((((t5 == ([195, 169] : Str)) && (t1.1 == 233)) && (t1.2 == 2)) && (t3.2 == 0)) && t14) && (!t18)) && (t22 == 1)) && t26) && t30) && (t34 == ([97] : Str))))))], []⟩) (.mk ⟨.same _, trivial⟩ trivial) ?_
  refine Ok.ret ?_
  obtain rfl := Option.some.inj H
  exact ⟨.inl rfl, rfl, rfl⟩

/-! watchbill/watchbillref01.value: function 30 -/
def watchbillref01_value.l0 (k : Nat) (a0 : Str) : Nat → Int → Int → Option Int
  | 0, _, _ => none
  | m + 1, x3_3, x4_4 => (if (decide (x4_4 < (a0.length : Int))) = true then (if (0 : Int) ≤ x4_4 ∧ x4_4 < (a0.length : Int) then watchbillref01_value.l0 k a0 m (IntKind.i64.wrap ((IntKind.i64.wrap ((IntKind.i64.wrap (x3_3 * 64)) + (IntKind.i64.wrap (bt a0 x4_4)))) - 128)) (IntKind.i64.wrap (x4_4 + 1)) else none) else some x3_3)
def watchbillref01_value.j1 (k : Nat) (a0 : Str) (x3_2 : Int) : Option Int := watchbillref01_value.l0 k a0 k x3_2 1
def watchbillref01_value (k : Nat) (a0 : Str) : Option Int := (if (0 : Int) ≤ 0 ∧ 0 < (a0.length : Int) then (if ((a0.length : Int) == 2) = true then watchbillref01_value.j1 k a0 (IntKind.i64.wrap ((IntKind.i64.wrap (bt a0 0)) - 192)) else (if ((a0.length : Int) == 3) = true then watchbillref01_value.j1 k a0 (IntKind.i64.wrap ((IntKind.i64.wrap (bt a0 0)) - 224)) else (if ((a0.length : Int) == 4) = true then watchbillref01_value.j1 k a0 (IntKind.i64.wrap ((IntKind.i64.wrap (bt a0 0)) - 240)) else watchbillref01_value.j1 k a0 (IntKind.i64.wrap (bt a0 0))))) else none)
theorem watchbillref01_value.ok {k : Nat} {a0 : Str} {r : Int} (H : watchbillref01_value k a0 = some r) : Vx.Fn Try.prog 30 [(S a0)] [] (.v (.int .i64 r)) [] := by
  unfold watchbillref01_value at H
  refine Vx.Fn.of_ok Try.func30 rfl (Nat.le_of_ble_eq_true rfl) ?_
  refine Ok.seq ?_
  refine Ok.region (σ' := ⟨[(0, (S a0))], []⟩) ?_ ?_
  · refine OpsOk.cons rfl (.v (VOk.asg (d := (.v (.int .i64 0))) rfl rfl) rfl) ?_
    exact .done (.mk ⟨.same _, trivial⟩ trivial)
  refine Ok.seq ?_
  obtain ⟨c1, H⟩ := assertE H
  refine Ok.region (σ' := ⟨[(0, (S a0)), (3, (.v (.int .i64 (IntKind.i64.wrap (bt a0 0)))))], []⟩) ?_ ?_
  · refine OpsOk.cons rfl (.v (VOk.mv (d := (S a0)) rfl rfl) rfl) ?_
    refine OpsOk.cons rfl (.v (VOk.indexStr (s := a0) (i := 0) rfl Try.underlying9 rfl rfl c1) rfl) ?_
    refine OpsOk.cons rfl (.v (VOk.convInt (a := (bt a0 0)) rfl (by rw [Try.underlying5]; rfl) Try.underlying3 rfl) rfl) ?_
    refine OpsOk.cons rfl (.v (VOk.asg (d := (.v (.int .i64 (IntKind.i64.wrap (bt a0 0))))) rfl rfl) rfl) ?_
    exact .done (.mk ⟨.same _, .same _, trivial⟩ trivial)
  refine Ok.meet (fun σ => ∃ (x3_2 : Int), σ = ⟨[(0, (S a0)), (3, (.v (.int .i64 x3_2)))], []⟩ ∧ watchbillref01_value.j1 k a0 x3_2 = some r) ?_ ?_
  · refine Ok.seq ?_
    refine Ok.region (σ' := ⟨[(0, (S a0)), (3, (.v (.int .i64 (IntKind.i64.wrap (bt a0 0))))), (9, (.v (.int .i64 (a0.length : Int))))], []⟩) ?_ ?_
    · refine OpsOk.cons rfl (.v (VOk.mv (d := (S a0)) rfl rfl) rfl) ?_
      refine OpsOk.cons rfl (.v (VOk.lenStr (s := a0) rfl Try.underlying9 rfl) rfl) ?_
      exact .done (.mk ⟨.same _, .same _, .same _, trivial⟩ trivial)
    refine Ok.block ?_
    refine Ok.seq ?_
    refine Ok.region (σ' := ⟨[(0, (S a0)), (3, (.v (.int .i64 (IntKind.i64.wrap (bt a0 0))))), (9, (.v (.int .i64 (a0.length : Int)))), (10, (.v (.bool ((a0.length : Int) == 2))))], []⟩) ?_ ?_
    · refine OpsOk.cons rfl (.v (VOk.arith (op := .eql) (k := .i64) (a := (a0.length : Int)) (b := 2) rfl rfl rfl rfl) rfl) ?_
      refine OpsOk.cons rfl (.v (VOk.asg (d := (.v (.bool ((a0.length : Int) == 2)))) rfl rfl) rfl) ?_
      exact .done (.mk ⟨.same _, .same _, .same _, .same _, trivial⟩ trivial)
    refine Ok.test (b := ((a0.length : Int) == 2)) rfl (fun hb11 => ?_) (fun hb11 => ?_)
    · replace H := ifT H hb11
      refine Ok.region (σ' := ⟨[(0, (S a0)), (3, (.v (.int .i64 (IntKind.i64.wrap ((IntKind.i64.wrap (bt a0 0)) - 192)))))], []⟩) ?_ ?_
      · refine OpsOk.cons rfl (.v (VOk.mv (d := (.v (.int .i64 (IntKind.i64.wrap (bt a0 0))))) rfl rfl) rfl) ?_
        refine OpsOk.cons rfl (.v (VOk.arith (op := .sub) (k := .i64) (a := (IntKind.i64.wrap (bt a0 0))) (b := 192) rfl rfl rfl rfl) rfl) ?_
        refine OpsOk.cons rfl (.v (VOk.asg (d := (.v (.int .i64 (IntKind.i64.wrap ((IntKind.i64.wrap (bt a0 0)) - 192))))) rfl rfl) rfl) ?_
        exact .done (.mk ⟨.same _, .same _, trivial⟩ trivial)
      exact ⟨(IntKind.i64.wrap ((IntKind.i64.wrap (bt a0 0)) - 192)), rfl, H⟩
    · replace H := ifF H hb11
      refine Ok.seq ?_
      refine Ok.region (σ' := ⟨[(0, (S a0)), (3, (.v (.int .i64 (IntKind.i64.wrap (bt a0 0))))), (9, (.v (.int .i64 (a0.length : Int)))), (14, (.v (.bool ((a0.length : Int) == 3))))], []⟩) ?_ ?_
      · refine OpsOk.cons rfl (.v (VOk.arith (op := .eql) (k := .i64) (a := (a0.length : Int)) (b := 3) rfl rfl rfl rfl) rfl) ?_
        refine OpsOk.cons rfl (.v (VOk.asg (d := (.v (.bool ((a0.length : Int) == 3)))) rfl rfl) rfl) ?_
        exact .done (.mk ⟨.same _, .same _, .same _, .same _, trivial⟩ trivial)
      refine Ok.test (b := ((a0.length : Int) == 3)) rfl (fun hb10 => ?_) (fun hb10 => ?_)
      · replace H := ifT H hb10
        refine Ok.region (σ' := ⟨[(0, (S a0)), (3, (.v (.int .i64 (IntKind.i64.wrap ((IntKind.i64.wrap (bt a0 0)) - 224)))))], []⟩) ?_ ?_
        · refine OpsOk.cons rfl (.v (VOk.mv (d := (.v (.int .i64 (IntKind.i64.wrap (bt a0 0))))) rfl rfl) rfl) ?_
          refine OpsOk.cons rfl (.v (VOk.arith (op := .sub) (k := .i64) (a := (IntKind.i64.wrap (bt a0 0))) (b := 224) rfl rfl rfl rfl) rfl) ?_
          refine OpsOk.cons rfl (.v (VOk.asg (d := (.v (.int .i64 (IntKind.i64.wrap ((IntKind.i64.wrap (bt a0 0)) - 224))))) rfl rfl) rfl) ?_
          exact .done (.mk ⟨.same _, .same _, trivial⟩ trivial)
        exact ⟨(IntKind.i64.wrap ((IntKind.i64.wrap (bt a0 0)) - 224)), rfl, H⟩
      · replace H := ifF H hb10
        refine Ok.seq ?_
        refine Ok.region (σ' := ⟨[(0, (S a0)), (3, (.v (.int .i64 (IntKind.i64.wrap (bt a0 0))))), (18, (.v (.bool ((a0.length : Int) == 4))))], []⟩) ?_ ?_
        · refine OpsOk.cons rfl (.v (VOk.arith (op := .eql) (k := .i64) (a := (a0.length : Int)) (b := 4) rfl rfl rfl rfl) rfl) ?_
          refine OpsOk.cons rfl (.v (VOk.asg (d := (.v (.bool ((a0.length : Int) == 4)))) rfl rfl) rfl) ?_
          exact .done (.mk ⟨.same _, .same _, .same _, trivial⟩ trivial)
        refine Ok.test (b := ((a0.length : Int) == 4)) rfl (fun hb9 => ?_) (fun hb9 => ?_)
        · replace H := ifT H hb9
          refine Ok.region (σ' := ⟨[(0, (S a0)), (3, (.v (.int .i64 (IntKind.i64.wrap ((IntKind.i64.wrap (bt a0 0)) - 240)))))], []⟩) ?_ ?_
          · refine OpsOk.cons rfl (.v (VOk.mv (d := (.v (.int .i64 (IntKind.i64.wrap (bt a0 0))))) rfl rfl) rfl) ?_
            refine OpsOk.cons rfl (.v (VOk.arith (op := .sub) (k := .i64) (a := (IntKind.i64.wrap (bt a0 0))) (b := 240) rfl rfl rfl rfl) rfl) ?_
            refine OpsOk.cons rfl (.v (VOk.asg (d := (.v (.int .i64 (IntKind.i64.wrap ((IntKind.i64.wrap (bt a0 0)) - 240))))) rfl rfl) rfl) ?_
            exact .done (.mk ⟨.same _, .same _, trivial⟩ trivial)
          exact ⟨(IntKind.i64.wrap ((IntKind.i64.wrap (bt a0 0)) - 240)), rfl, H⟩
        · replace H := ifF H hb9
          refine Ok.le (σ' := ⟨[(0, (S a0)), (3, (.v (.int .i64 (IntKind.i64.wrap (bt a0 0)))))], []⟩) (.mk ⟨.same _, .same _, trivial⟩ trivial) ?_
          refine Ok.skip ?_
          exact ⟨(IntKind.i64.wrap (bt a0 0)), rfl, H⟩
  · rintro σ ⟨x3_2, rfl, H⟩
    unfold watchbillref01_value.j1 at H
    refine Ok.seq ?_
    refine Ok.seq ?_
    refine Ok.region (σ' := ⟨[(0, (S a0)), (3, (.v (.int .i64 x3_2))), (4, (.v (.int .i64 1)))], []⟩) ?_ ?_
    · refine OpsOk.cons rfl (.v (VOk.asg (d := (.v (.int .i64 1))) rfl rfl) rfl) ?_
      exact .done (.mk ⟨.same _, .same _, .same _, trivial⟩ trivial)
    refine Ok.block ?_
    refine Ok.le (σ' := ⟨[(0, (S a0)), (3, (.v (.int .i64 x3_2))), (4, (.v (.int .i64 1)))], []⟩) (.mk ⟨.same _, .same _, .same _, trivial⟩ trivial) ?_
    refine Ok.loop (fun m σ => ∃ (x3_3 : Int) (x4_4 : Int), σ = ⟨[(0, (S a0)), (3, (.v (.int .i64 x3_3))), (4, (.v (.int .i64 x4_4)))], []⟩ ∧ watchbillref01_value.l0 k a0 m x3_3 x4_4 = some r) k ⟨x3_2, 1, rfl, H⟩ ?_
    rintro m σ ⟨x3_3, x4_4, rfl, H⟩
    cases m with
    | zero => exact absurd H (by simp [watchbillref01_value.l0])
    | succ m =>
      unfold watchbillref01_value.l0 at H
      refine Ok.seq ?_
      refine Ok.seq ?_
      refine Ok.region (σ' := ⟨[(0, (S a0)), (3, (.v (.int .i64 x3_3))), (4, (.v (.int .i64 x4_4))), (25, (.v (.bool (decide (x4_4 < (a0.length : Int))))))], []⟩) ?_ ?_
      · refine OpsOk.cons rfl (.v (VOk.mv (d := (.v (.int .i64 x4_4))) rfl rfl) rfl) ?_
        refine OpsOk.cons rfl (.v (VOk.mv (d := (S a0)) rfl rfl) rfl) ?_
        refine OpsOk.cons rfl (.v (VOk.lenStr (s := a0) rfl Try.underlying9 rfl) rfl) ?_
        refine OpsOk.cons rfl (.v (VOk.arith (op := .lss) (k := .i64) (a := x4_4) (b := (a0.length : Int)) rfl rfl rfl rfl) rfl) ?_
        exact .done (.mk ⟨.same _, .same _, .same _, .same _, trivial⟩ trivial)
      refine Ok.test (b := (decide (x4_4 < (a0.length : Int)))) rfl (fun hb8 => ?_) (fun hb8 => ?_)
      · replace H := ifT H hb8
        refine Ok.le (σ' := ⟨[(0, (S a0)), (3, (.v (.int .i64 x3_3))), (4, (.v (.int .i64 x4_4)))], []⟩) (.mk ⟨.same _, .same _, .same _, trivial⟩ trivial) ?_
        refine Ok.skip ?_
        refine Ok.seq ?_
        refine Ok.block ?_
        obtain ⟨c7, H⟩ := assertE H
        refine Ok.region (σ' := ⟨[(0, (S a0)), (3, (.v (.int .i64 (IntKind.i64.wrap ((IntKind.i64.wrap ((IntKind.i64.wrap (x3_3 * 64)) + (IntKind.i64.wrap (bt a0 x4_4)))) - 128))))), (4, (.v (.int .i64 x4_4)))], []⟩) ?_ ?_
        · refine OpsOk.cons rfl (.v (VOk.mv (d := (.v (.int .i64 x3_3))) rfl rfl) rfl) ?_
          refine OpsOk.cons rfl (.v (VOk.arith (op := .mul) (k := .i64) (a := x3_3) (b := 64) rfl rfl rfl rfl) rfl) ?_
          refine OpsOk.cons rfl (.v (VOk.mv (d := (S a0)) rfl rfl) rfl) ?_
          refine OpsOk.cons rfl (.v (VOk.mv (d := (.v (.int .i64 x4_4))) rfl rfl) rfl) ?_
          refine OpsOk.cons rfl (.v (VOk.indexStr (s := a0) (i := x4_4) rfl Try.underlying9 rfl rfl c7) rfl) ?_
          refine OpsOk.cons rfl (.v (VOk.convInt (a := (bt a0 x4_4)) rfl (by rw [Try.underlying5]; rfl) Try.underlying3 rfl) rfl) ?_
          refine OpsOk.cons rfl (.v (VOk.arith (op := .add) (k := .i64) (a := (IntKind.i64.wrap (x3_3 * 64))) (b := (IntKind.i64.wrap (bt a0 x4_4))) rfl rfl rfl rfl) rfl) ?_
          refine OpsOk.cons rfl (.v (VOk.arith (op := .sub) (k := .i64) (a := (IntKind.i64.wrap ((IntKind.i64.wrap (x3_3 * 64)) + (IntKind.i64.wrap (bt a0 x4_4))))) (b := 128) rfl rfl rfl rfl) rfl) ?_
          refine OpsOk.cons rfl (.v (VOk.asg (d := (.v (.int .i64 (IntKind.i64.wrap ((IntKind.i64.wrap ((IntKind.i64.wrap (x3_3 * 64)) + (IntKind.i64.wrap (bt a0 x4_4)))) - 128))))) rfl rfl) rfl) ?_
          exact .done (.mk ⟨.same _, .same _, .same _, trivial⟩ trivial)
        refine Ok.region (σ' := ⟨[(0, (S a0)), (3, (.v (.int .i64 (IntKind.i64.wrap ((IntKind.i64.wrap ((IntKind.i64.wrap (x3_3 * 64)) + (IntKind.i64.wrap (bt a0 x4_4)))) - 128))))), (4, (.v (.int .i64 (IntKind.i64.wrap (x4_4 + 1)))))], []⟩) ?_ ?_
        · refine OpsOk.cons rfl (.v (VOk.mv (d := (.v (.int .i64 x4_4))) rfl rfl) rfl) ?_
          refine OpsOk.cons rfl (.v (VOk.arith (op := .add) (k := .i64) (a := x4_4) (b := 1) rfl rfl rfl rfl) rfl) ?_
          refine OpsOk.cons rfl (.v (VOk.asg (d := (.v (.int .i64 (IntKind.i64.wrap (x4_4 + 1))))) rfl rfl) rfl) ?_
          exact .done (.mk ⟨.same _, .same _, .same _, trivial⟩ trivial)
        exact ⟨m, Nat.lt_succ_self m, (IntKind.i64.wrap ((IntKind.i64.wrap ((IntKind.i64.wrap (x3_3 * 64)) + (IntKind.i64.wrap (bt a0 x4_4)))) - 128)), (IntKind.i64.wrap (x4_4 + 1)), rfl, H⟩
      · replace H := ifF H hb8
        refine Ok.le (σ' := ⟨[(3, (.v (.int .i64 x3_3)))], []⟩) (.mk ⟨.same _, trivial⟩ trivial) ?_
        refine Ok.exit ?_
        refine Ok.seq ?_
        refine Ok.region (σ' := ⟨[(2, (.v (.int .i64 x3_3)))], []⟩) ?_ ?_
        · refine OpsOk.cons rfl (.v (VOk.mv (d := (.v (.int .i64 x3_3))) rfl rfl) rfl) ?_
          refine OpsOk.cons rfl (.v (VOk.asg (d := (.v (.int .i64 x3_3))) rfl rfl) rfl) ?_
          exact .done (.mk ⟨.same _, trivial⟩ trivial)
        refine Ok.le (σ' := ⟨[(2, (.v (.int .i64 x3_3)))], []⟩) (.mk ⟨.same _, trivial⟩ trivial) ?_
        refine Ok.ret ?_
        obtain rfl := Option.some.inj H
        exact ⟨.inl rfl, rfl, rfl⟩

/-! watchbill/watchbillref01.Sign: function 31 -/
def watchbillref01_Sign (a0 : Int) : Option Bool := some (((decide (a0 ≥ 0)) && (decide (a0 ≤ 1114111))) && ((decide (a0 < 55296)) || (decide (a0 > 57343))))
theorem watchbillref01_Sign.ok {a0 : Int} {r : Bool} (H : watchbillref01_Sign a0 = some r) : Vx.Fn Try.prog 31 [(.v (.int .i64 a0))] [] (.v (.bool r)) [] := by
  unfold watchbillref01_Sign at H
  refine Vx.Fn.of_ok Try.func31 rfl (Nat.le_of_ble_eq_true rfl) ?_
  refine Ok.seq ?_
  refine Ok.region (σ' := ⟨[(0, (.v (.int .i64 a0)))], []⟩) ?_ ?_
  · refine OpsOk.cons rfl (.v (VOk.asg (d := (.v (.bool false))) rfl rfl) rfl) ?_
    exact .done (.mk ⟨.same _, trivial⟩ trivial)
  refine Ok.seq ?_
  refine Ok.region (σ' := ⟨[(2, (.v (.bool (((decide (a0 ≥ 0)) && (decide (a0 ≤ 1114111))) && ((decide (a0 < 55296)) || (decide (a0 > 57343)))))))], []⟩) ?_ ?_
  · refine OpsOk.cons rfl (.v (VOk.mv (d := (.v (.int .i64 a0))) rfl rfl) rfl) ?_
    refine OpsOk.cons rfl (.v (VOk.arith (op := .geq) (k := .i64) (a := a0) (b := 0) rfl rfl rfl rfl) rfl) ?_
    refine OpsOk.cons rfl (.v (VOk.mv (d := (.v (.bool (decide (a0 ≥ 0))))) rfl rfl) rfl) ?_
    refine OpsOk.consI rfl rfl rfl (.one rfl) rfl (fun hw1 => (VOk.g (VOk.mv (d := (.v (.int .i64 a0))) rfl rfl))) ?_
    refine OpsOk.consI rfl rfl rfl (.one rfl) rfl (fun hw1 => (GOk.fr (fr' := [(6, (.v (.int .i64 a0)))]) ⟨DLe.of_eq (cT hw1).symm, trivial⟩ (VOk.g (VOk.arith (op := .leq) (k := .i64) (a := a0) (b := 1114111) rfl rfl rfl rfl)))) ?_
    refine OpsOk.cons rfl (.v (VOk.to (VOk.pickI (b := (decide (a0 ≥ 0))) (p := (decide (a0 ≤ 1114111))) (q := false) rfl rfl (fun hp2 => (cT (t_beq hp2))) (fun hp2 => rfl)) (pickAnd (decide (a0 ≥ 0)) (decide (a0 ≤ 1114111)))) rfl) ?_
    refine OpsOk.cons rfl (.v (VOk.mv (d := (.v (.bool ((decide (a0 ≥ 0)) && (decide (a0 ≤ 1114111)))))) rfl rfl) rfl) ?_
    refine OpsOk.consI rfl rfl rfl (.one rfl) rfl (fun hw3 => (VOk.g (VOk.mv (d := (.v (.int .i64 a0))) rfl rfl))) ?_
    refine OpsOk.consI rfl rfl rfl (.one rfl) rfl (fun hw3 => (GOk.fr (fr' := [(10, (.v (.int .i64 a0)))]) ⟨DLe.of_eq (cT hw3).symm, trivial⟩ (VOk.g (VOk.arith (op := .lss) (k := .i64) (a := a0) (b := 55296) rfl rfl rfl rfl)))) ?_
    refine OpsOk.consI rfl rfl rfl (.one rfl) rfl (fun hw3 => (GOk.fr (fr' := [(11, (.v (.bool (decide (a0 < 55296)))))]) ⟨DLe.of_eq (cT hw3).symm, trivial⟩ (VOk.g (VOk.mv (d := (.v (.bool (decide (a0 < 55296))))) rfl rfl)))) ?_
    refine OpsOk.consI rfl rfl rfl (.two rfl) rfl (fun hw4 => (VOk.g (VOk.mv (d := (.v (.int .i64 a0))) rfl rfl))) ?_
    refine OpsOk.consI rfl rfl rfl (.two rfl) rfl (fun hw4 => (GOk.fr (fr' := [(13, (.v (.int .i64 a0)))]) ⟨DLe.of_eq (cT hw4).symm, trivial⟩ (VOk.g (VOk.arith (op := .gtr) (k := .i64) (a := a0) (b := 57343) rfl rfl rfl rfl)))) ?_
    refine OpsOk.consI rfl rfl rfl (.one rfl) rfl (fun hw3 => (VOk.g (VOk.to (VOk.pickI (b := (decide (a0 < 55296))) (p := true) (q := (decide (a0 > 57343))) rfl (cT hw3) (fun hp5 => rfl) (fun hp5 => (cT (and_i hw3 (f_beq hp5))))) (pickOr (decide (a0 < 55296)) (decide (a0 > 57343)))))) ?_
    refine OpsOk.cons rfl (.v (VOk.to (VOk.pickI (b := ((decide (a0 ≥ 0)) && (decide (a0 ≤ 1114111)))) (p := ((decide (a0 < 55296)) || (decide (a0 > 57343)))) (q := false) rfl rfl (fun hp6 => (cT (t_beq hp6))) (fun hp6 => rfl)) (pickAnd ((decide (a0 ≥ 0)) && (decide (a0 ≤ 1114111))) ((decide (a0 < 55296)) || (decide (a0 > 57343))))) rfl) ?_
    refine OpsOk.cons rfl (.v (VOk.asg (d := (.v (.bool (((decide (a0 ≥ 0)) && (decide (a0 ≤ 1114111))) && ((decide (a0 < 55296)) || (decide (a0 > 57343))))))) rfl rfl) rfl) ?_
    exact .done (.mk ⟨.same _, trivial⟩ trivial)
  refine Ok.le (σ' := ⟨[(2, (.v (.bool (((decide (a0 ≥ 0)) && (decide (a0 ≤ 1114111))) && ((decide (a0 < 55296)) || (decide (a0 > 57343)))))))], []⟩) (.mk ⟨.same _, trivial⟩ trivial) ?_
  refine Ok.ret ?_
  obtain rfl := Option.some.inj H
  exact ⟨.inl rfl, rfl, rfl⟩

/-! watchbill/watchbillref01.Put: function 32 -/
def watchbillref01_Put (a0 : Int) : Option Str := ((watchbillref01_Sign a0).bind fun (t1 : Bool) => (if (!t1) = true then some ([] : Str) else (if (decide (a0 < 128)) = true then some (strOfBytes ([(IntKind.u8.wrap a0)] : List Int)) else (if (decide (a0 < 2048)) = true then some (strOfBytes ([(IntKind.u8.wrap (IntKind.i64.wrap (192 + (IntKind.i64.wrap ((a0).tdiv 64))))), (IntKind.u8.wrap (IntKind.i64.wrap (128 + ((a0).tmod 64))))] : List Int)) else (if (decide (a0 < 65536)) = true then some (strOfBytes ([(IntKind.u8.wrap (IntKind.i64.wrap (224 + (IntKind.i64.wrap ((a0).tdiv 4096))))), (IntKind.u8.wrap (IntKind.i64.wrap (128 + (((IntKind.i64.wrap ((a0).tdiv 64))).tmod 64)))), (IntKind.u8.wrap (IntKind.i64.wrap (128 + ((a0).tmod 64))))] : List Int)) else some (strOfBytes ([(IntKind.u8.wrap (IntKind.i64.wrap (240 + (IntKind.i64.wrap ((a0).tdiv 262144))))), (IntKind.u8.wrap (IntKind.i64.wrap (128 + (((IntKind.i64.wrap ((a0).tdiv 4096))).tmod 64)))), (IntKind.u8.wrap (IntKind.i64.wrap (128 + (((IntKind.i64.wrap ((a0).tdiv 64))).tmod 64)))), (IntKind.u8.wrap (IntKind.i64.wrap (128 + ((a0).tmod 64))))] : List Int)))))))
theorem watchbillref01_Put.ok {a0 : Int} {r : Str} (H : watchbillref01_Put a0 = some r) : Vx.Fn Try.prog 32 [(.v (.int .i64 a0))] [] (S r) [] := by
  unfold watchbillref01_Put at H
  refine Vx.Fn.of_ok Try.func32 rfl (Nat.le_of_ble_eq_true rfl) ?_
  refine Ok.seq ?_
  refine Ok.region (σ' := ⟨[(0, (.v (.int .i64 a0)))], []⟩) ?_ ?_
  · refine OpsOk.cons rfl (.v (VOk.asg (d := (S ([] : Str))) rfl rfl) rfl) ?_
    exact .done (.mk ⟨.same _, trivial⟩ trivial)
  refine Ok.seq ?_
  refine Ok.seq ?_
  obtain ⟨t1, h2, H⟩ := bindE H
  refine Ok.region (σ' := ⟨[(0, (.v (.int .i64 a0))), (5, (.v (.bool (!t1))))], []⟩) ?_ ?_
  · refine OpsOk.cons rfl (.v (VOk.mv (d := (.v (.int .i64 a0))) rfl rfl) rfl) ?_
    refine OpsOk.cons rfl (.g (GOk.call rfl rfl cl31 rfl (watchbillref01_Sign.ok h2) rfl) rfl) ?_
    refine OpsOk.cons rfl (.v (VOk.not (b := t1) rfl rfl) rfl) ?_
    exact .done (.mk ⟨.same _, .same _, trivial⟩ trivial)
  refine Ok.test (b := (!t1)) rfl (fun hb6 => ?_) (fun hb6 => ?_)
  · replace H := ifT H hb6
    refine Ok.seq ?_
    refine Ok.region (σ' := ⟨[(2, (S ([] : Str)))], []⟩) ?_ ?_
    · refine OpsOk.cons rfl (.v (VOk.asg (d := (S ([] : Str))) rfl rfl) rfl) ?_
      exact .done (.mk ⟨.same _, trivial⟩ trivial)
    refine Ok.le (σ' := ⟨[(2, (S ([] : Str)))], []⟩) (.mk ⟨.same _, trivial⟩ trivial) ?_
    refine Ok.ret ?_
    obtain rfl := Option.some.inj H
    exact ⟨.inl rfl, rfl, rfl⟩
  · replace H := ifF H hb6
    refine Ok.le (σ' := ⟨[(0, (.v (.int .i64 a0)))], []⟩) (.mk ⟨.same _, trivial⟩ trivial) ?_
    refine Ok.skip ?_
    refine Ok.seq ?_
    refine Ok.seq ?_
    refine Ok.region (σ' := ⟨[(0, (.v (.int .i64 a0))), (7, (.v (.bool (decide (a0 < 128)))))], []⟩) ?_ ?_
    · refine OpsOk.cons rfl (.v (VOk.mv (d := (.v (.int .i64 a0))) rfl rfl) rfl) ?_
      refine OpsOk.cons rfl (.v (VOk.arith (op := .lss) (k := .i64) (a := a0) (b := 128) rfl rfl rfl rfl) rfl) ?_
      exact .done (.mk ⟨.same _, .same _, trivial⟩ trivial)
    refine Ok.test (b := (decide (a0 < 128))) rfl (fun hb5 => ?_) (fun hb5 => ?_)
    · replace H := ifT H hb5
      refine Ok.seq ?_
      refine Ok.region (σ' := ⟨[(2, (S (strOfBytes ([(IntKind.u8.wrap a0)] : List Int))))], []⟩) ?_ ?_
      · refine OpsOk.cons rfl (.v (VOk.mv (d := (.v (.int .i64 a0))) rfl rfl) rfl) ?_
        refine OpsOk.cons rfl (.v (VOk.convInt (a := a0) rfl (by rw [Try.underlying3]; rfl) Try.underlying5 rfl) rfl) ?_
        refine OpsOk.cons rfl (.g (GOk.to (d' := (L 1 (eI .u8) ([(IntKind.u8.wrap a0)] : List Int))) (GOk.lit rfl Try.underlying41 sz5 zs5 rfl rfl rfl rfl) rfl) rfl) ?_
        refine OpsOk.cons rfl (.v (VOk.bytesStr (xs := ([(IntKind.u8.wrap a0)] : List Int)) rfl Try.underlying41 Try.underlying5 Try.underlying9 rfl) rfl) ?_
        refine OpsOk.cons rfl (.v (VOk.asg (d := (S (strOfBytes ([(IntKind.u8.wrap a0)] : List Int)))) rfl rfl) rfl) ?_
        exact .done (.mk ⟨.same _, trivial⟩ trivial)
      refine Ok.le (σ' := ⟨[(2, (S (strOfBytes ([(IntKind.u8.wrap a0)] : List Int))))], []⟩) (.mk ⟨.same _, trivial⟩ trivial) ?_
      refine Ok.ret ?_
      obtain rfl := Option.some.inj H
      exact ⟨.inl rfl, rfl, rfl⟩
    · replace H := ifF H hb5
      refine Ok.le (σ' := ⟨[(0, (.v (.int .i64 a0)))], []⟩) (.mk ⟨.same _, trivial⟩ trivial) ?_
      refine Ok.skip ?_
      refine Ok.seq ?_
      refine Ok.seq ?_
      refine Ok.region (σ' := ⟨[(0, (.v (.int .i64 a0))), (13, (.v (.bool (decide (a0 < 2048)))))], []⟩) ?_ ?_
      · refine OpsOk.cons rfl (.v (VOk.mv (d := (.v (.int .i64 a0))) rfl rfl) rfl) ?_
        refine OpsOk.cons rfl (.v (VOk.arith (op := .lss) (k := .i64) (a := a0) (b := 2048) rfl rfl rfl rfl) rfl) ?_
        exact .done (.mk ⟨.same _, .same _, trivial⟩ trivial)
      refine Ok.test (b := (decide (a0 < 2048))) rfl (fun hb4 => ?_) (fun hb4 => ?_)
      · replace H := ifT H hb4
        refine Ok.seq ?_
        refine Ok.region (σ' := ⟨[(2, (S (strOfBytes ([(IntKind.u8.wrap (IntKind.i64.wrap (192 + (IntKind.i64.wrap ((a0).tdiv 64))))), (IntKind.u8.wrap (IntKind.i64.wrap (128 + ((a0).tmod 64))))] : List Int))))], []⟩) ?_ ?_
        · refine OpsOk.cons rfl (.v (VOk.mv (d := (.v (.int .i64 a0))) rfl rfl) rfl) ?_
          refine OpsOk.cons rfl (.v (VOk.quo (a := a0) (b := 64) rfl rfl rfl (by decide)) rfl) ?_
          refine OpsOk.cons rfl (.v (VOk.arith (op := .add) (k := .i64) (a := 192) (b := (IntKind.i64.wrap ((a0).tdiv 64))) rfl rfl rfl rfl) rfl) ?_
          refine OpsOk.cons rfl (.v (VOk.convInt (a := (IntKind.i64.wrap (192 + (IntKind.i64.wrap ((a0).tdiv 64))))) rfl (by rw [Try.underlying3]; rfl) Try.underlying5 rfl) rfl) ?_
          refine OpsOk.cons rfl (.v (VOk.mv (d := (.v (.int .i64 a0))) rfl rfl) rfl) ?_
          refine OpsOk.cons rfl (.v (VOk.rem (a := a0) (b := 64) rfl rfl rfl (by decide)) rfl) ?_
          refine OpsOk.cons rfl (.v (VOk.arith (op := .add) (k := .i64) (a := 128) (b := ((a0).tmod 64)) rfl rfl rfl rfl) rfl) ?_
          refine OpsOk.cons rfl (.v (VOk.convInt (a := (IntKind.i64.wrap (128 + ((a0).tmod 64)))) rfl (by rw [Try.underlying3]; rfl) Try.underlying5 rfl) rfl) ?_
          refine OpsOk.cons rfl (.g (GOk.to (d' := (L 1 (eI .u8) ([(IntKind.u8.wrap (IntKind.i64.wrap (192 + (IntKind.i64.wrap ((a0).tdiv 64))))), (IntKind.u8.wrap (IntKind.i64.wrap (128 + ((a0).tmod 64))))] : List Int))) (GOk.lit rfl Try.underlying41 sz5 zs5 rfl rfl rfl rfl) rfl) rfl) ?_
          refine OpsOk.cons rfl (.v (VOk.bytesStr (xs := ([(IntKind.u8.wrap (IntKind.i64.wrap (192 + (IntKind.i64.wrap ((a0).tdiv 64))))), (IntKind.u8.wrap (IntKind.i64.wrap (128 + ((a0).tmod 64))))] : List Int)) rfl Try.underlying41 Try.underlying5 Try.underlying9 rfl) rfl) ?_
          refine OpsOk.cons rfl (.v (VOk.asg (d := (S (strOfBytes ([(IntKind.u8.wrap (IntKind.i64.wrap (192 + (IntKind.i64.wrap ((a0).tdiv 64))))), (IntKind.u8.wrap (IntKind.i64.wrap (128 + ((a0).tmod 64))))] : List Int)))) rfl rfl) rfl) ?_
          exact .done (.mk ⟨.same _, trivial⟩ trivial)
        refine Ok.le (σ' := ⟨[(2, (S (strOfBytes ([(IntKind.u8.wrap (IntKind.i64.wrap (192 + (IntKind.i64.wrap ((a0).tdiv 64))))), (IntKind.u8.wrap (IntKind.i64.wrap (128 + ((a0).tmod 64))))] : List Int))))], []⟩) (.mk ⟨.same _, trivial⟩ trivial) ?_
        refine Ok.ret ?_
        obtain rfl := Option.some.inj H
        exact ⟨.inl rfl, rfl, rfl⟩
      · replace H := ifF H hb4
        refine Ok.le (σ' := ⟨[(0, (.v (.int .i64 a0)))], []⟩) (.mk ⟨.same _, trivial⟩ trivial) ?_
        refine Ok.skip ?_
        refine Ok.seq ?_
        refine Ok.seq ?_
        refine Ok.region (σ' := ⟨[(0, (.v (.int .i64 a0))), (25, (.v (.bool (decide (a0 < 65536)))))], []⟩) ?_ ?_
        · refine OpsOk.cons rfl (.v (VOk.mv (d := (.v (.int .i64 a0))) rfl rfl) rfl) ?_
          refine OpsOk.cons rfl (.v (VOk.arith (op := .lss) (k := .i64) (a := a0) (b := 65536) rfl rfl rfl rfl) rfl) ?_
          exact .done (.mk ⟨.same _, .same _, trivial⟩ trivial)
        refine Ok.test (b := (decide (a0 < 65536))) rfl (fun hb3 => ?_) (fun hb3 => ?_)
        · replace H := ifT H hb3
          refine Ok.seq ?_
          refine Ok.region (σ' := ⟨[(2, (S (strOfBytes ([(IntKind.u8.wrap (IntKind.i64.wrap (224 + (IntKind.i64.wrap ((a0).tdiv 4096))))), (IntKind.u8.wrap (IntKind.i64.wrap (128 + (((IntKind.i64.wrap ((a0).tdiv 64))).tmod 64)))), (IntKind.u8.wrap (IntKind.i64.wrap (128 + ((a0).tmod 64))))] : List Int))))], []⟩) ?_ ?_
          · refine OpsOk.cons rfl (.v (VOk.mv (d := (.v (.int .i64 a0))) rfl rfl) rfl) ?_
            refine OpsOk.cons rfl (.v (VOk.quo (a := a0) (b := 4096) rfl rfl rfl (by decide)) rfl) ?_
            refine OpsOk.cons rfl (.v (VOk.arith (op := .add) (k := .i64) (a := 224) (b := (IntKind.i64.wrap ((a0).tdiv 4096))) rfl rfl rfl rfl) rfl) ?_
            refine OpsOk.cons rfl (.v (VOk.convInt (a := (IntKind.i64.wrap (224 + (IntKind.i64.wrap ((a0).tdiv 4096))))) rfl (by rw [Try.underlying3]; rfl) Try.underlying5 rfl) rfl) ?_
            refine OpsOk.cons rfl (.v (VOk.mv (d := (.v (.int .i64 a0))) rfl rfl) rfl) ?_
            refine OpsOk.cons rfl (.v (VOk.quo (a := a0) (b := 64) rfl rfl rfl (by decide)) rfl) ?_
            refine OpsOk.cons rfl (.v (VOk.rem (a := (IntKind.i64.wrap ((a0).tdiv 64))) (b := 64) rfl rfl rfl (by decide)) rfl) ?_
            refine OpsOk.cons rfl (.v (VOk.arith (op := .add) (k := .i64) (a := 128) (b := (((IntKind.i64.wrap ((a0).tdiv 64))).tmod 64)) rfl rfl rfl rfl) rfl) ?_
            refine OpsOk.cons rfl (.v (VOk.convInt (a := (IntKind.i64.wrap (128 + (((IntKind.i64.wrap ((a0).tdiv 64))).tmod 64)))) rfl (by rw [Try.underlying3]; rfl) Try.underlying5 rfl) rfl) ?_
            refine OpsOk.cons rfl (.v (VOk.mv (d := (.v (.int .i64 a0))) rfl rfl) rfl) ?_
            refine OpsOk.cons rfl (.v (VOk.rem (a := a0) (b := 64) rfl rfl rfl (by decide)) rfl) ?_
            refine OpsOk.cons rfl (.v (VOk.arith (op := .add) (k := .i64) (a := 128) (b := ((a0).tmod 64)) rfl rfl rfl rfl) rfl) ?_
            refine OpsOk.cons rfl (.v (VOk.convInt (a := (IntKind.i64.wrap (128 + ((a0).tmod 64)))) rfl (by rw [Try.underlying3]; rfl) Try.underlying5 rfl) rfl) ?_
            refine OpsOk.cons rfl (.g (GOk.to (d' := (L 1 (eI .u8) ([(IntKind.u8.wrap (IntKind.i64.wrap (224 + (IntKind.i64.wrap ((a0).tdiv 4096))))), (IntKind.u8.wrap (IntKind.i64.wrap (128 + (((IntKind.i64.wrap ((a0).tdiv 64))).tmod 64)))), (IntKind.u8.wrap (IntKind.i64.wrap (128 + ((a0).tmod 64))))] : List Int))) (GOk.lit rfl Try.underlying41 sz5 zs5 rfl rfl rfl rfl) rfl) rfl) ?_
            refine OpsOk.cons rfl (.v (VOk.bytesStr (xs := ([(IntKind.u8.wrap (IntKind.i64.wrap (224 + (IntKind.i64.wrap ((a0).tdiv 4096))))), (IntKind.u8.wrap (IntKind.i64.wrap (128 + (((IntKind.i64.wrap ((a0).tdiv 64))).tmod 64)))), (IntKind.u8.wrap (IntKind.i64.wrap (128 + ((a0).tmod 64))))] : List Int)) rfl Try.underlying41 Try.underlying5 Try.underlying9 rfl) rfl) ?_
            refine OpsOk.cons rfl (.v (VOk.asg (d := (S (strOfBytes ([(IntKind.u8.wrap (IntKind.i64.wrap (224 + (IntKind.i64.wrap ((a0).tdiv 4096))))), (IntKind.u8.wrap (IntKind.i64.wrap (128 + (((IntKind.i64.wrap ((a0).tdiv 64))).tmod 64)))), (IntKind.u8.wrap (IntKind.i64.wrap (128 + ((a0).tmod 64))))] : List Int)))) rfl rfl) rfl) ?_
            exact .done (.mk ⟨.same _, trivial⟩ trivial)
          refine Ok.le (σ' := ⟨[(2, (S (strOfBytes ([(IntKind.u8.wrap (IntKind.i64.wrap (224 + (IntKind.i64.wrap ((a0).tdiv 4096))))), (IntKind.u8.wrap (IntKind.i64.wrap (128 + (((IntKind.i64.wrap ((a0).tdiv 64))).tmod 64)))), (IntKind.u8.wrap (IntKind.i64.wrap (128 + ((a0).tmod 64))))] : List Int))))], []⟩) (.mk ⟨.same _, trivial⟩ trivial) ?_
          refine Ok.ret ?_
          obtain rfl := Option.some.inj H
          exact ⟨.inl rfl, rfl, rfl⟩
        · replace H := ifF H hb3
          refine Ok.le (σ' := ⟨[(0, (.v (.int .i64 a0)))], []⟩) (.mk ⟨.same _, trivial⟩ trivial) ?_
          refine Ok.skip ?_
          refine Ok.seq ?_
          refine Ok.region (σ' := ⟨[(2, (S (strOfBytes ([(IntKind.u8.wrap (IntKind.i64.wrap (240 + (IntKind.i64.wrap ((a0).tdiv 262144))))), (IntKind.u8.wrap (IntKind.i64.wrap (128 + (((IntKind.i64.wrap ((a0).tdiv 4096))).tmod 64)))), (IntKind.u8.wrap (IntKind.i64.wrap (128 + (((IntKind.i64.wrap ((a0).tdiv 64))).tmod 64)))), (IntKind.u8.wrap (IntKind.i64.wrap (128 + ((a0).tmod 64))))] : List Int))))], []⟩) ?_ ?_
          · refine OpsOk.cons rfl (.v (VOk.mv (d := (.v (.int .i64 a0))) rfl rfl) rfl) ?_
            refine OpsOk.cons rfl (.v (VOk.quo (a := a0) (b := 262144) rfl rfl rfl (by decide)) rfl) ?_
            refine OpsOk.cons rfl (.v (VOk.arith (op := .add) (k := .i64) (a := 240) (b := (IntKind.i64.wrap ((a0).tdiv 262144))) rfl rfl rfl rfl) rfl) ?_
            refine OpsOk.cons rfl (.v (VOk.convInt (a := (IntKind.i64.wrap (240 + (IntKind.i64.wrap ((a0).tdiv 262144))))) rfl (by rw [Try.underlying3]; rfl) Try.underlying5 rfl) rfl) ?_
            refine OpsOk.cons rfl (.v (VOk.mv (d := (.v (.int .i64 a0))) rfl rfl) rfl) ?_
            refine OpsOk.cons rfl (.v (VOk.quo (a := a0) (b := 4096) rfl rfl rfl (by decide)) rfl) ?_
            refine OpsOk.cons rfl (.v (VOk.rem (a := (IntKind.i64.wrap ((a0).tdiv 4096))) (b := 64) rfl rfl rfl (by decide)) rfl) ?_
            refine OpsOk.cons rfl (.v (VOk.arith (op := .add) (k := .i64) (a := 128) (b := (((IntKind.i64.wrap ((a0).tdiv 4096))).tmod 64)) rfl rfl rfl rfl) rfl) ?_
            refine OpsOk.cons rfl (.v (VOk.convInt (a := (IntKind.i64.wrap (128 + (((IntKind.i64.wrap ((a0).tdiv 4096))).tmod 64)))) rfl (by rw [Try.underlying3]; rfl) Try.underlying5 rfl) rfl) ?_
            refine OpsOk.cons rfl (.v (VOk.mv (d := (.v (.int .i64 a0))) rfl rfl) rfl) ?_
            refine OpsOk.cons rfl (.v (VOk.quo (a := a0) (b := 64) rfl rfl rfl (by decide)) rfl) ?_
            refine OpsOk.cons rfl (.v (VOk.rem (a := (IntKind.i64.wrap ((a0).tdiv 64))) (b := 64) rfl rfl rfl (by decide)) rfl) ?_
            refine OpsOk.cons rfl (.v (VOk.arith (op := .add) (k := .i64) (a := 128) (b := (((IntKind.i64.wrap ((a0).tdiv 64))).tmod 64)) rfl rfl rfl rfl) rfl) ?_
            refine OpsOk.cons rfl (.v (VOk.convInt (a := (IntKind.i64.wrap (128 + (((IntKind.i64.wrap ((a0).tdiv 64))).tmod 64)))) rfl (by rw [Try.underlying3]; rfl) Try.underlying5 rfl) rfl) ?_
            refine OpsOk.cons rfl (.v (VOk.mv (d := (.v (.int .i64 a0))) rfl rfl) rfl) ?_
            refine OpsOk.cons rfl (.v (VOk.rem (a := a0) (b := 64) rfl rfl rfl (by decide)) rfl) ?_
            refine OpsOk.cons rfl (.v (VOk.arith (op := .add) (k := .i64) (a := 128) (b := ((a0).tmod 64)) rfl rfl rfl rfl) rfl) ?_
            refine OpsOk.cons rfl (.v (VOk.convInt (a := (IntKind.i64.wrap (128 + ((a0).tmod 64)))) rfl (by rw [Try.underlying3]; rfl) Try.underlying5 rfl) rfl) ?_
            refine OpsOk.cons rfl (.g (GOk.to (d' := (L 1 (eI .u8) ([(IntKind.u8.wrap (IntKind.i64.wrap (240 + (IntKind.i64.wrap ((a0).tdiv 262144))))), (IntKind.u8.wrap (IntKind.i64.wrap (128 + (((IntKind.i64.wrap ((a0).tdiv 4096))).tmod 64)))), (IntKind.u8.wrap (IntKind.i64.wrap (128 + (((IntKind.i64.wrap ((a0).tdiv 64))).tmod 64)))), (IntKind.u8.wrap (IntKind.i64.wrap (128 + ((a0).tmod 64))))] : List Int))) (GOk.lit rfl Try.underlying41 sz5 zs5 rfl rfl rfl rfl) rfl) rfl) ?_
            refine OpsOk.cons rfl (.v (VOk.bytesStr (xs := ([(IntKind.u8.wrap (IntKind.i64.wrap (240 + (IntKind.i64.wrap ((a0).tdiv 262144))))), (IntKind.u8.wrap (IntKind.i64.wrap (128 + (((IntKind.i64.wrap ((a0).tdiv 4096))).tmod 64)))), (IntKind.u8.wrap (IntKind.i64.wrap (128 + (((IntKind.i64.wrap ((a0).tdiv 64))).tmod 64)))), (IntKind.u8.wrap (IntKind.i64.wrap (128 + ((a0).tmod 64))))] : List Int)) rfl Try.underlying41 Try.underlying5 Try.underlying9 rfl) rfl) ?_
            refine OpsOk.cons rfl (.v (VOk.asg (d := (S (strOfBytes ([(IntKind.u8.wrap (IntKind.i64.wrap (240 + (IntKind.i64.wrap ((a0).tdiv 262144))))), (IntKind.u8.wrap (IntKind.i64.wrap (128 + (((IntKind.i64.wrap ((a0).tdiv 4096))).tmod 64)))), (IntKind.u8.wrap (IntKind.i64.wrap (128 + (((IntKind.i64.wrap ((a0).tdiv 64))).tmod 64)))), (IntKind.u8.wrap (IntKind.i64.wrap (128 + ((a0).tmod 64))))] : List Int)))) rfl rfl) rfl) ?_
            exact .done (.mk ⟨.same _, trivial⟩ trivial)
          refine Ok.le (σ' := ⟨[(2, (S (strOfBytes ([(IntKind.u8.wrap (IntKind.i64.wrap (240 + (IntKind.i64.wrap ((a0).tdiv 262144))))), (IntKind.u8.wrap (IntKind.i64.wrap (128 + (((IntKind.i64.wrap ((a0).tdiv 4096))).tmod 64)))), (IntKind.u8.wrap (IntKind.i64.wrap (128 + (((IntKind.i64.wrap ((a0).tdiv 64))).tmod 64)))), (IntKind.u8.wrap (IntKind.i64.wrap (128 + ((a0).tmod 64))))] : List Int))))], []⟩) (.mk ⟨.same _, trivial⟩ trivial) ?_
          refine Ok.ret ?_
          obtain rfl := Option.some.inj H
          exact ⟨.inl rfl, rfl, rfl⟩

/-! watchbill/watchbillref01.Rune: function 11 -/
def watchbillref01_Rune.l0 (k : Nat) (a0 : Str) (a1 : Int) : Nat → Int → Option (Int × Int)
  | 0, _ => none
  | m + 1, x6_3 => (if ((decide (x6_3 ≤ 4)) && (decide (x6_3 ≤ (IntKind.i64.wrap ((a0.length : Int) - a1))))) = true then (if (0 : Int) ≤ a1 ∧ a1 ≤ (IntKind.i64.wrap (a1 + x6_3)) ∧ (IntKind.i64.wrap (a1 + x6_3)) ≤ (a0.length : Int) then ((watchbillref01_value k (sl a0 a1 (IntKind.i64.wrap (a1 + x6_3)))).bind fun (t8 : Int) => ((watchbillref01_Sign t8).bind fun (t10 : Bool) => (((if (t10 == true) = true then watchbillref01_Put t8 else some default)).bind fun (t13 : Str) => (if (t10 && (t13 == (sl a0 a1 (IntKind.i64.wrap (a1 + x6_3))))) = true then some (t8, x6_3) else watchbillref01_Rune.l0 k a0 a1 m (IntKind.i64.wrap (x6_3 + 1)))))) else none) else some (0, 0))
def watchbillref01_Rune (k : Nat) (a0 : Str) (a1 : Int) : Option (Int × Int) := (if ((decide (a1 < 0)) || (decide (a1 ≥ (a0.length : Int)))) = true then some (0, 0) else watchbillref01_Rune.l0 k a0 a1 k 1)
theorem watchbillref01_Rune.ok {k : Nat} {a0 : Str} {a1 : Int} {r : Int × Int} (H : watchbillref01_Rune k a0 a1 = some r) : Vx.Fn Try.prog 11 [(S a0), (.v (.int .i64 a1))] [] (.tup [(.v (.int .i64 r.1)), (.v (.int .i64 r.2))]) [] := by
  unfold watchbillref01_Rune at H
  refine Vx.Fn.of_ok Try.func11 rfl (Nat.le_of_ble_eq_true rfl) ?_
  refine Ok.seq ?_
  refine Ok.region (σ' := ⟨[(0, (S a0)), (1, (.v (.int .i64 a1)))], []⟩) ?_ ?_
  · refine OpsOk.cons rfl (.v (VOk.asg (d := (.v (.int .i64 0))) rfl rfl) rfl) ?_
    refine OpsOk.cons rfl (.v (VOk.asg (d := (.v (.int .i64 0))) rfl rfl) rfl) ?_
    exact .done (.mk ⟨.same _, .same _, trivial⟩ trivial)
  refine Ok.seq ?_
  refine Ok.seq ?_
  refine Ok.region (σ' := ⟨[(0, (S a0)), (1, (.v (.int .i64 a1))), (16, (.v (.bool ((decide (a1 < 0)) || (decide (a1 ≥ (a0.length : Int)))))))], []⟩) ?_ ?_
  · refine OpsOk.cons rfl (.v (VOk.mv (d := (.v (.int .i64 a1))) rfl rfl) rfl) ?_
    refine OpsOk.cons rfl (.v (VOk.arith (op := .lss) (k := .i64) (a := a1) (b := 0) rfl rfl rfl rfl) rfl) ?_
    refine OpsOk.cons rfl (.v (VOk.mv (d := (.v (.bool (decide (a1 < 0))))) rfl rfl) rfl) ?_
    refine OpsOk.consI rfl rfl rfl (.one rfl) rfl (fun hw1 => (VOk.g (VOk.mv (d := (.v (.int .i64 a1))) rfl rfl))) ?_
    refine OpsOk.consI rfl rfl rfl (.one rfl) rfl (fun hw1 => (VOk.g (VOk.mv (d := (S a0)) rfl rfl))) ?_
    refine OpsOk.consI rfl rfl rfl (.one rfl) rfl (fun hw1 => (GOk.fr (fr' := [(13, (S a0))]) ⟨DLe.of_eq (cT hw1).symm, trivial⟩ (VOk.g (VOk.lenStr (s := a0) rfl Try.underlying9 rfl)))) ?_
    refine OpsOk.consI rfl rfl rfl (.one rfl) rfl (fun hw1 => (GOk.fr (fr' := [(12, (.v (.int .i64 a1))), (14, (.v (.int .i64 (a0.length : Int))))]) ⟨DLe.of_eq (cT hw1).symm, DLe.of_eq (cT hw1).symm, trivial⟩ (VOk.g (VOk.arith (op := .geq) (k := .i64) (a := a1) (b := (a0.length : Int)) rfl rfl rfl rfl)))) ?_
    refine OpsOk.cons rfl (.v (VOk.to (VOk.pickI (b := (decide (a1 < 0))) (p := true) (q := (decide (a1 ≥ (a0.length : Int)))) rfl rfl (fun hp2 => rfl) (fun hp2 => (cT (f_beq hp2)))) (pickOr (decide (a1 < 0)) (decide (a1 ≥ (a0.length : Int))))) rfl) ?_
    exact .done (.mk ⟨.same _, .same _, .same _, trivial⟩ trivial)
  refine Ok.test (b := ((decide (a1 < 0)) || (decide (a1 ≥ (a0.length : Int))))) rfl (fun hb18 => ?_) (fun hb18 => ?_)
  · replace H := ifT H hb18
    refine Ok.seq ?_
    refine Ok.region (σ' := ⟨[(4, (.v (.int .i64 0))), (5, (.v (.int .i64 0)))], []⟩) ?_ ?_
    · refine OpsOk.cons rfl (.v (VOk.asg (d := (.v (.int .i64 0))) rfl rfl) rfl) ?_
      refine OpsOk.cons rfl (.v (VOk.asg (d := (.v (.int .i64 0))) rfl rfl) rfl) ?_
      exact .done (.mk ⟨.same _, .same _, trivial⟩ trivial)
    refine Ok.le (σ' := ⟨[(4, (.v (.int .i64 0))), (5, (.v (.int .i64 0)))], []⟩) (.mk ⟨.same _, .same _, trivial⟩ trivial) ?_
    refine Ok.ret ?_
    obtain rfl := Option.some.inj H
    exact ⟨.inl rfl, rfl, rfl⟩
  · replace H := ifF H hb18
    refine Ok.le (σ' := ⟨[(0, (S a0)), (1, (.v (.int .i64 a1)))], []⟩) (.mk ⟨.same _, .same _, trivial⟩ trivial) ?_
    refine Ok.skip ?_
    refine Ok.seq ?_
    refine Ok.seq ?_
    refine Ok.region (σ' := ⟨[(0, (S a0)), (1, (.v (.int .i64 a1))), (6, (.v (.int .i64 1)))], []⟩) ?_ ?_
    · refine OpsOk.cons rfl (.v (VOk.asg (d := (.v (.int .i64 1))) rfl rfl) rfl) ?_
      exact .done (.mk ⟨.same _, .same _, .same _, trivial⟩ trivial)
    refine Ok.block ?_
    refine Ok.le (σ' := ⟨[(0, (S a0)), (1, (.v (.int .i64 a1))), (6, (.v (.int .i64 1)))], []⟩) (.mk ⟨.same _, .same _, .same _, trivial⟩ trivial) ?_
    refine Ok.loop (fun m σ => ∃ (x6_3 : Int), σ = ⟨[(0, (S a0)), (1, (.v (.int .i64 a1))), (6, (.v (.int .i64 x6_3)))], []⟩ ∧ watchbillref01_Rune.l0 k a0 a1 m x6_3 = some r) k ⟨1, rfl, H⟩ ?_
    rintro m σ ⟨x6_3, rfl, H⟩
    cases m with
    | zero => exact absurd H (by simp [watchbillref01_Rune.l0])
    | succ m =>
      unfold watchbillref01_Rune.l0 at H
      refine Ok.seq ?_
      refine Ok.seq ?_
      refine Ok.region (σ' := ⟨[(0, (S a0)), (1, (.v (.int .i64 a1))), (6, (.v (.int .i64 x6_3))), (26, (.v (.bool ((decide (x6_3 ≤ 4)) && (decide (x6_3 ≤ (IntKind.i64.wrap ((a0.length : Int) - a1))))))))], []⟩) ?_ ?_
      · refine OpsOk.cons rfl (.v (VOk.mv (d := (.v (.int .i64 x6_3))) rfl rfl) rfl) ?_
        refine OpsOk.cons rfl (.v (VOk.arith (op := .leq) (k := .i64) (a := x6_3) (b := 4) rfl rfl rfl rfl) rfl) ?_
        refine OpsOk.cons rfl (.v (VOk.mv (d := (.v (.bool (decide (x6_3 ≤ 4))))) rfl rfl) rfl) ?_
        refine OpsOk.consI rfl rfl rfl (.one rfl) rfl (fun hw5 => (VOk.g (VOk.mv (d := (.v (.int .i64 x6_3))) rfl rfl))) ?_
        refine OpsOk.consI rfl rfl rfl (.one rfl) rfl (fun hw5 => (VOk.g (VOk.mv (d := (S a0)) rfl rfl))) ?_
        refine OpsOk.consI rfl rfl rfl (.one rfl) rfl (fun hw5 => (GOk.fr (fr' := [(21, (S a0))]) ⟨DLe.of_eq (cT hw5).symm, trivial⟩ (VOk.g (VOk.lenStr (s := a0) rfl Try.underlying9 rfl)))) ?_
        refine OpsOk.consI rfl rfl rfl (.one rfl) rfl (fun hw5 => (VOk.g (VOk.mv (d := (.v (.int .i64 a1))) rfl rfl))) ?_
        refine OpsOk.consI rfl rfl rfl (.one rfl) rfl (fun hw5 => (GOk.fr (fr' := [(22, (.v (.int .i64 (a0.length : Int)))), (23, (.v (.int .i64 a1)))]) ⟨DLe.of_eq (cT hw5).symm, DLe.of_eq (cT hw5).symm, trivial⟩ (VOk.g (VOk.arith (op := .sub) (k := .i64) (a := (a0.length : Int)) (b := a1) rfl rfl rfl rfl)))) ?_
        refine OpsOk.consI rfl rfl rfl (.one rfl) rfl (fun hw5 => (GOk.fr (fr' := [(20, (.v (.int .i64 x6_3))), (24, (.v (.int .i64 (IntKind.i64.wrap ((a0.length : Int) - a1)))))]) ⟨DLe.of_eq (cT hw5).symm, DLe.of_eq (cT hw5).symm, trivial⟩ (VOk.g (VOk.arith (op := .leq) (k := .i64) (a := x6_3) (b := (IntKind.i64.wrap ((a0.length : Int) - a1))) rfl rfl rfl rfl)))) ?_
        refine OpsOk.cons rfl (.v (VOk.to (VOk.pickI (b := (decide (x6_3 ≤ 4))) (p := (decide (x6_3 ≤ (IntKind.i64.wrap ((a0.length : Int) - a1))))) (q := false) rfl rfl (fun hp6 => (cT (t_beq hp6))) (fun hp6 => rfl)) (pickAnd (decide (x6_3 ≤ 4)) (decide (x6_3 ≤ (IntKind.i64.wrap ((a0.length : Int) - a1)))))) rfl) ?_
        exact .done (.mk ⟨.same _, .same _, .same _, .same _, trivial⟩ trivial)
      refine Ok.test (b := ((decide (x6_3 ≤ 4)) && (decide (x6_3 ≤ (IntKind.i64.wrap ((a0.length : Int) - a1)))))) rfl (fun hb17 => ?_) (fun hb17 => ?_)
      · replace H := ifT H hb17
        refine Ok.le (σ' := ⟨[(0, (S a0)), (1, (.v (.int .i64 a1))), (6, (.v (.int .i64 x6_3)))], []⟩) (.mk ⟨.same _, .same _, .same _, trivial⟩ trivial) ?_
        refine Ok.skip ?_
        refine Ok.seq ?_
        refine Ok.block ?_
        refine Ok.seq ?_
        obtain ⟨c7, H⟩ := assertE H
        refine Ok.region (σ' := ⟨[(0, (S a0)), (1, (.v (.int .i64 a1))), (6, (.v (.int .i64 x6_3))), (7, (S (sl a0 a1 (IntKind.i64.wrap (a1 + x6_3)))))], []⟩) ?_ ?_
        · refine OpsOk.cons rfl (.v (VOk.mv (d := (S a0)) rfl rfl) rfl) ?_
          refine OpsOk.cons rfl (.v (VOk.mv (d := (.v (.int .i64 a1))) rfl rfl) rfl) ?_
          refine OpsOk.cons rfl (.v (VOk.mv (d := (.v (.int .i64 a1))) rfl rfl) rfl) ?_
          refine OpsOk.cons rfl (.v (VOk.mv (d := (.v (.int .i64 x6_3))) rfl rfl) rfl) ?_
          refine OpsOk.cons rfl (.v (VOk.arith (op := .add) (k := .i64) (a := a1) (b := x6_3) rfl rfl rfl rfl) rfl) ?_
          refine OpsOk.cons rfl (.v (VOk.sliceStr (s := a0) (l := a1) (h := (IntKind.i64.wrap (a1 + x6_3))) rfl Try.underlying9 rfl rfl rfl c7) rfl) ?_
          refine OpsOk.cons rfl (.v (VOk.asg (d := (S (sl a0 a1 (IntKind.i64.wrap (a1 + x6_3))))) rfl rfl) rfl) ?_
          exact .done (.mk ⟨.same _, .same _, .same _, .same _, trivial⟩ trivial)
        refine Ok.seq ?_
        obtain ⟨t8, h9, H⟩ := bindE H
        refine Ok.region (σ' := ⟨[(0, (S a0)), (1, (.v (.int .i64 a1))), (6, (.v (.int .i64 x6_3))), (7, (S (sl a0 a1 (IntKind.i64.wrap (a1 + x6_3))))), (8, (.v (.int .i64 t8)))], []⟩) ?_ ?_
        · refine OpsOk.cons rfl (.v (VOk.mv (d := (S (sl a0 a1 (IntKind.i64.wrap (a1 + x6_3))))) rfl rfl) rfl) ?_
          refine OpsOk.cons rfl (.g (GOk.call rfl rfl cl30 rfl (watchbillref01_value.ok h9) rfl) rfl) ?_
          refine OpsOk.cons rfl (.v (VOk.asg (d := (.v (.int .i64 t8))) rfl rfl) rfl) ?_
          exact .done (.mk ⟨.same _, .same _, .same _, .same _, .same _, trivial⟩ trivial)
        refine Ok.seq ?_
        obtain ⟨t10, h11, H⟩ := bindE H
        obtain ⟨t13, h14, H⟩ := bindE H
        refine Ok.region (σ' := ⟨[(0, (S a0)), (1, (.v (.int .i64 a1))), (6, (.v (.int .i64 x6_3))), (8, (.v (.int .i64 t8))), (44, (.v (.bool (t10 && (t13 == (sl a0 a1 (IntKind.i64.wrap (a1 + x6_3))))))))], []⟩) ?_ ?_
        · refine OpsOk.cons rfl (.v (VOk.mv (d := (.v (.int .i64 t8))) rfl rfl) rfl) ?_
          refine OpsOk.cons rfl (.g (GOk.call rfl rfl cl31 rfl (watchbillref01_Sign.ok h11) rfl) rfl) ?_
          refine OpsOk.cons rfl (.v (VOk.mv (d := (.v (.bool t10))) rfl rfl) rfl) ?_
          refine OpsOk.consI rfl rfl rfl (.one rfl) rfl (fun hw12 => (VOk.g (VOk.mv (d := (.v (.int .i64 t8))) rfl rfl))) ?_
          refine OpsOk.consI rfl rfl rfl (.one rfl) rfl (fun hw12 => (GOk.fr (fr' := [(40, (.v (.int .i64 t8)))]) ⟨DLe.of_eq (cT hw12).symm, trivial⟩ (GOk.call rfl rfl cl32 rfl (watchbillref01_Put.ok (ifT h14 hw12)) rfl))) ?_
          refine OpsOk.consI rfl rfl rfl (.one rfl) rfl (fun hw12 => (VOk.g (VOk.mv (d := (S (sl a0 a1 (IntKind.i64.wrap (a1 + x6_3))))) rfl rfl))) ?_
          refine OpsOk.consI rfl rfl rfl (.one rfl) rfl (fun hw12 => (GOk.fr (fr' := [(41, (S t13)), (42, (S (sl a0 a1 (IntKind.i64.wrap (a1 + x6_3)))))]) ⟨DLe.of_eq (cT hw12).symm, DLe.of_eq (cT hw12).symm, trivial⟩ (VOk.g (VOk.strOp (op := .eql) (a := t13) (b := (sl a0 a1 (IntKind.i64.wrap (a1 + x6_3)))) rfl rfl rfl rfl)))) ?_
          refine OpsOk.cons rfl (.v (VOk.to (VOk.pickI (b := t10) (p := (t13 == (sl a0 a1 (IntKind.i64.wrap (a1 + x6_3))))) (q := false) rfl rfl (fun hp15 => (cT (t_beq hp15))) (fun hp15 => rfl)) (pickAnd t10 (t13 == (sl a0 a1 (IntKind.i64.wrap (a1 + x6_3)))))) rfl) ?_
          exact .done (.mk ⟨.same _, .same _, .same _, .same _, .same _, trivial⟩ trivial)
        refine Ok.test (b := (t10 && (t13 == (sl a0 a1 (IntKind.i64.wrap (a1 + x6_3)))))) rfl (fun hb16 => ?_) (fun hb16 => ?_)
        · replace H := ifT H hb16
          refine Ok.seq ?_
          refine Ok.region (σ' := ⟨[(4, (.v (.int .i64 t8))), (5, (.v (.int .i64 x6_3)))], []⟩) ?_ ?_
          · refine OpsOk.cons rfl (.v (VOk.mv (d := (.v (.int .i64 t8))) rfl rfl) rfl) ?_
            refine OpsOk.cons rfl (.v (VOk.mv (d := (.v (.int .i64 x6_3))) rfl rfl) rfl) ?_
            refine OpsOk.cons rfl (.v (VOk.asg (d := (.v (.int .i64 t8))) rfl rfl) rfl) ?_
            refine OpsOk.cons rfl (.v (VOk.asg (d := (.v (.int .i64 x6_3))) rfl rfl) rfl) ?_
            exact .done (.mk ⟨.same _, .same _, trivial⟩ trivial)
          refine Ok.le (σ' := ⟨[(4, (.v (.int .i64 t8))), (5, (.v (.int .i64 x6_3)))], []⟩) (.mk ⟨.same _, .same _, trivial⟩ trivial) ?_
          refine Ok.ret ?_
          obtain rfl := Option.some.inj H
          exact ⟨.inl rfl, rfl, rfl⟩
        · replace H := ifF H hb16
          refine Ok.le (σ' := ⟨[(0, (S a0)), (1, (.v (.int .i64 a1))), (6, (.v (.int .i64 x6_3)))], []⟩) (.mk ⟨.same _, .same _, .same _, trivial⟩ trivial) ?_
          refine Ok.skip ?_
          refine Ok.region (σ' := ⟨[(0, (S a0)), (1, (.v (.int .i64 a1))), (6, (.v (.int .i64 (IntKind.i64.wrap (x6_3 + 1)))))], []⟩) ?_ ?_
          · refine OpsOk.cons rfl (.v (VOk.mv (d := (.v (.int .i64 x6_3))) rfl rfl) rfl) ?_
            refine OpsOk.cons rfl (.v (VOk.arith (op := .add) (k := .i64) (a := x6_3) (b := 1) rfl rfl rfl rfl) rfl) ?_
            refine OpsOk.cons rfl (.v (VOk.asg (d := (.v (.int .i64 (IntKind.i64.wrap (x6_3 + 1))))) rfl rfl) rfl) ?_
            exact .done (.mk ⟨.same _, .same _, .same _, trivial⟩ trivial)
          exact ⟨m, Nat.lt_succ_self m, (IntKind.i64.wrap (x6_3 + 1)), rfl, H⟩
      · replace H := ifF H hb17
        refine Ok.le (σ' := ⟨[], []⟩) (.mk trivial trivial) ?_
        refine Ok.exit ?_
        refine Ok.seq ?_
        refine Ok.region (σ' := ⟨[(4, (.v (.int .i64 0))), (5, (.v (.int .i64 0)))], []⟩) ?_ ?_
        · refine OpsOk.cons rfl (.v (VOk.asg (d := (.v (.int .i64 0))) rfl rfl) rfl) ?_
          refine OpsOk.cons rfl (.v (VOk.asg (d := (.v (.int .i64 0))) rfl rfl) rfl) ?_
          exact .done (.mk ⟨.same _, .same _, trivial⟩ trivial)
        refine Ok.le (σ' := ⟨[(4, (.v (.int .i64 0))), (5, (.v (.int .i64 0)))], []⟩) (.mk ⟨.same _, .same _, trivial⟩ trivial) ?_
        refine Ok.ret ?_
        obtain rfl := Option.some.inj H
        exact ⟨.inl rfl, rfl, rfl⟩

/-! watchbill/watchbilllaw01.UtfRunes: function 3 -/
def watchbilllaw01_UtfRunes (k : Nat) (a0 : Str) (a1 : Int) : Option Bool := ((watchbilllaw01_awake k).bind fun (t1 : Bool) => (if (!t1) = true then some false else (if (decide ((a0.length : Int) > 20000)) = true then some true else ((utf_Rune k a0 a1).bind fun (t3 : Int × Int) => ((watchbillref01_Rune k a0 a1).bind fun (t5 : Int × Int) => some (((IntKind.i64.wrap t3.1) == t5.1) && (t3.2 == t5.2)))))))
theorem watchbilllaw01_UtfRunes.ok {k : Nat} {a0 : Str} {a1 : Int} {r : Bool} (H : watchbilllaw01_UtfRunes k a0 a1 = some r) : Vx.Fn Try.prog 3 [(S a0), (.v (.int .i64 a1))] [] (.v (.bool r)) [] := by
  unfold watchbilllaw01_UtfRunes at H
  refine Vx.Fn.of_ok Try.func3 rfl (Nat.le_of_ble_eq_true rfl) ?_
  refine Ok.seq ?_
  refine Ok.region (σ' := ⟨[(0, (S a0)), (1, (.v (.int .i64 a1)))], []⟩) ?_ ?_
  · refine OpsOk.cons rfl (.v (VOk.asg (d := (.v (.bool false))) rfl rfl) rfl) ?_
    exact .done (.mk ⟨.same _, .same _, trivial⟩ trivial)
  refine Ok.seq ?_
  refine Ok.seq ?_
  obtain ⟨t1, h2, H⟩ := bindE H
  refine Ok.region (σ' := ⟨[(0, (S a0)), (1, (.v (.int .i64 a1))), (10, (.v (.bool (!t1))))], []⟩) ?_ ?_
  · refine OpsOk.cons rfl (.g (GOk.call rfl rfl cl9 rfl (watchbilllaw01_awake.ok h2) rfl) rfl) ?_
    refine OpsOk.cons rfl (.v (VOk.not (b := t1) rfl rfl) rfl) ?_
    exact .done (.mk ⟨.same _, .same _, .same _, trivial⟩ trivial)
  refine Ok.test (b := (!t1)) rfl (fun hb10 => ?_) (fun hb10 => ?_)
  · replace H := ifT H hb10
    refine Ok.seq ?_
    refine Ok.region (σ' := ⟨[(4, (.v (.bool false)))], []⟩) ?_ ?_
    · refine OpsOk.cons rfl (.v (VOk.asg (d := (.v (.bool false))) rfl rfl) rfl) ?_
      exact .done (.mk ⟨.same _, trivial⟩ trivial)
    refine Ok.le (σ' := ⟨[(4, (.v (.bool false)))], []⟩) (.mk ⟨.same _, trivial⟩ trivial) ?_
    refine Ok.ret ?_
    obtain rfl := Option.some.inj H
    exact ⟨.inl rfl, rfl, rfl⟩
  · replace H := ifF H hb10
    refine Ok.le (σ' := ⟨[(0, (S a0)), (1, (.v (.int .i64 a1)))], []⟩) (.mk ⟨.same _, .same _, trivial⟩ trivial) ?_
    refine Ok.skip ?_
    refine Ok.seq ?_
    refine Ok.seq ?_
    refine Ok.region (σ' := ⟨[(0, (S a0)), (1, (.v (.int .i64 a1))), (13, (.v (.bool (decide ((a0.length : Int) > 20000)))))], []⟩) ?_ ?_
    · refine OpsOk.cons rfl (.v (VOk.mv (d := (S a0)) rfl rfl) rfl) ?_
      refine OpsOk.cons rfl (.v (VOk.lenStr (s := a0) rfl Try.underlying9 rfl) rfl) ?_
      refine OpsOk.cons rfl (.v (VOk.arith (op := .gtr) (k := .i64) (a := (a0.length : Int)) (b := 20000) rfl rfl rfl rfl) rfl) ?_
      exact .done (.mk ⟨.same _, .same _, .same _, trivial⟩ trivial)
    refine Ok.test (b := (decide ((a0.length : Int) > 20000))) rfl (fun hb9 => ?_) (fun hb9 => ?_)
    · replace H := ifT H hb9
      refine Ok.seq ?_
      refine Ok.region (σ' := ⟨[(4, (.v (.bool true)))], []⟩) ?_ ?_
      · refine OpsOk.cons rfl (.v (VOk.asg (d := (.v (.bool true))) rfl rfl) rfl) ?_
        exact .done (.mk ⟨.same _, trivial⟩ trivial)
      refine Ok.le (σ' := ⟨[(4, (.v (.bool true)))], []⟩) (.mk ⟨.same _, trivial⟩ trivial) ?_
      refine Ok.ret ?_
      obtain rfl := Option.some.inj H
      exact ⟨.inl rfl, rfl, rfl⟩
    · replace H := ifF H hb9
      refine Ok.le (σ' := ⟨[(0, (S a0)), (1, (.v (.int .i64 a1)))], []⟩) (.mk ⟨.same _, .same _, trivial⟩ trivial) ?_
      refine Ok.skip ?_
      refine Ok.seq ?_
      obtain ⟨t3, h4, H⟩ := bindE H
      refine Ok.region (σ' := ⟨[(0, (S a0)), (1, (.v (.int .i64 a1))), (5, (.v (.int .i32 t3.1))), (6, (.v (.int .i64 t3.2)))], []⟩) ?_ ?_
      · refine OpsOk.cons rfl (.v (VOk.mv (d := (S a0)) rfl rfl) rfl) ?_
        refine OpsOk.cons rfl (.v (VOk.mv (d := (.v (.int .i64 a1))) rfl rfl) rfl) ?_
        refine OpsOk.cons rfl (.g (GOk.call rfl rfl cl10 rfl (utf_Rune.ok h4) rfl) rfl) ?_
        refine OpsOk.cons rfl (.v (VOk.mv (d := (.tup [(.v (.int .i32 t3.1)), (.v (.int .i64 t3.2))])) rfl rfl) rfl) ?_
        refine OpsOk.cons rfl (.v (VOk.extract (d := (.v (.int .i32 t3.1))) rfl rfl rfl) rfl) ?_
        refine OpsOk.cons rfl (.v (VOk.extract (d := (.v (.int .i64 t3.2))) rfl rfl rfl) rfl) ?_
        refine OpsOk.cons rfl (.v (VOk.asg (d := (.v (.int .i32 t3.1))) rfl rfl) rfl) ?_
        refine OpsOk.cons rfl (.v (VOk.asg (d := (.v (.int .i64 t3.2))) rfl rfl) rfl) ?_
        exact .done (.mk ⟨.same _, .same _, .same _, .same _, trivial⟩ trivial)
      refine Ok.seq ?_
      obtain ⟨t5, h6, H⟩ := bindE H
      refine Ok.region (σ' := ⟨[(5, (.v (.int .i32 t3.1))), (6, (.v (.int .i64 t3.2))), (7, (.v (.int .i64 t5.1))), (8, (.v (.int .i64 t5.2)))], []⟩) ?_ ?_
      · refine OpsOk.cons rfl (.v (VOk.mv (d := (S a0)) rfl rfl) rfl) ?_
        refine OpsOk.cons rfl (.v (VOk.mv (d := (.v (.int .i64 a1))) rfl rfl) rfl) ?_
        refine OpsOk.cons rfl (.g (GOk.call rfl rfl cl11 rfl (watchbillref01_Rune.ok h6) rfl) rfl) ?_
        refine OpsOk.cons rfl (.v (VOk.mv (d := (.tup [(.v (.int .i64 t5.1)), (.v (.int .i64 t5.2))])) rfl rfl) rfl) ?_
        refine OpsOk.cons rfl (.v (VOk.extract (d := (.v (.int .i64 t5.1))) rfl rfl rfl) rfl) ?_
        refine OpsOk.cons rfl (.v (VOk.extract (d := (.v (.int .i64 t5.2))) rfl rfl rfl) rfl) ?_
        refine OpsOk.cons rfl (.v (VOk.asg (d := (.v (.int .i64 t5.1))) rfl rfl) rfl) ?_
        refine OpsOk.cons rfl (.v (VOk.asg (d := (.v (.int .i64 t5.2))) rfl rfl) rfl) ?_
        exact .done (.mk ⟨.same _, .same _, .same _, .same _, trivial⟩ trivial)
      refine Ok.seq ?_
      refine Ok.region (σ' := ⟨[(4, (.v (.bool (((IntKind.i64.wrap t3.1) == t5.1) && (t3.2 == t5.2)))))], []⟩) ?_ ?_
      · refine OpsOk.cons rfl (.v (VOk.mv (d := (.v (.int .i32 t3.1))) rfl rfl) rfl) ?_
        refine OpsOk.cons rfl (.v (VOk.convInt (a := t3.1) rfl (by rw [Try.underlying21]; rfl) Try.underlying3 rfl) rfl) ?_
        refine OpsOk.cons rfl (.v (VOk.mv (d := (.v (.int .i64 t5.1))) rfl rfl) rfl) ?_
        refine OpsOk.cons rfl (.v (VOk.arith (op := .eql) (k := .i64) (a := (IntKind.i64.wrap t3.1)) (b := t5.1) rfl rfl rfl rfl) rfl) ?_
        refine OpsOk.cons rfl (.v (VOk.mv (d := (.v (.bool ((IntKind.i64.wrap t3.1) == t5.1)))) rfl rfl) rfl) ?_
        refine OpsOk.consI rfl rfl rfl (.one rfl) rfl (fun hw7 => (VOk.g (VOk.mv (d := (.v (.int .i64 t3.2))) rfl rfl))) ?_
        refine OpsOk.consI rfl rfl rfl (.one rfl) rfl (fun hw7 => (VOk.g (VOk.mv (d := (.v (.int .i64 t5.2))) rfl rfl))) ?_
        refine OpsOk.consI rfl rfl rfl (.one rfl) rfl (fun hw7 => (GOk.fr (fr' := [(31, (.v (.int .i64 t3.2))), (32, (.v (.int .i64 t5.2)))]) ⟨DLe.of_eq (cT hw7).symm, DLe.of_eq (cT hw7).symm, trivial⟩ (VOk.g (VOk.arith (op := .eql) (k := .i64) (a := t3.2) (b := t5.2) rfl rfl rfl rfl)))) ?_
        refine OpsOk.cons rfl (.v (VOk.to (VOk.pickI (b := ((IntKind.i64.wrap t3.1) == t5.1)) (p := (t3.2 == t5.2)) (q := false) rfl rfl (fun hp8 => (cT (t_beq hp8))) (fun hp8 => rfl)) (pickAnd ((IntKind.i64.wrap t3.1) == t5.1) (t3.2 == t5.2))) rfl) ?_
        refine OpsOk.cons rfl (.v (VOk.asg (d := (.v (.bool (((IntKind.i64.wrap t3.1) == t5.1) && (t3.2 == t5.2))))) rfl rfl) rfl) ?_
        exact .done (.mk ⟨.same _, trivial⟩ trivial)
      refine Ok.le (σ' := ⟨[(4, (.v (.bool (((IntKind.i64.wrap t3.1) == t5.1) && (t3.2 == t5.2)))))], []⟩) (.mk ⟨.same _, trivial⟩ trivial) ?_
      refine Ok.ret ?_
      obtain rfl := Option.some.inj H
      exact ⟨.inl rfl, rfl, rfl⟩

/-! watchbill/watchbilllaw01.UtfBack: function 4 -/
def watchbilllaw01_UtfBack (k : Nat) (a0 : Str) (a1 : Int) (a2 : Str) : Option Bool := ((watchbilllaw01_awake k).bind fun (t1 : Bool) => (if (!t1) = true then some false else (if ((decide ((a0.length : Int) > 20000)) || (decide ((a2.length : Int) > 20000))) = true then some true else ((utf_Put a1).bind fun (t5 : Str) => (if (((decide (a1 < 0)) || (decide (a1 > 1114111))) || ((decide (a1 ≥ 55296)) && (decide (a1 ≤ 57343)))) = true then some (t5 == ([] : Str)) else (if a0.length + t5.length ≤ 9223372036854775807 then (if (a0 ++ t5).length + a2.length ≤ 9223372036854775807 then ((utf_Rune k ((a0 ++ t5) ++ a2) (a0.length : Int)).bind fun (t15 : Int × Int) => (if (0 : Int) ≤ 0 ∧ 0 ≤ (IntKind.i64.wrap ((t5.length : Int) - 1)) ∧ (IntKind.i64.wrap ((t5.length : Int) - 1)) ≤ (t5.length : Int) then (if a0.length + (sl t5 0 (IntKind.i64.wrap ((t5.length : Int) - 1))).length ≤ 9223372036854775807 then ((utf_Rune k (a0 ++ (sl t5 0 (IntKind.i64.wrap ((t5.length : Int) - 1)))) (a0.length : Int)).bind fun (t19 : Int × Int) => some ((((((decide ((t5.length : Int) ≥ 1)) && (decide ((t5.length : Int) ≤ 4))) && (t15.1 == a1)) && (t15.2 == (t5.length : Int))) && (t19.2 == 0)) && (((t5.length : Int) == 1) == (decide (a1 < 128))))) else none) else none)) else none) else none))))))
theorem watchbilllaw01_UtfBack.ok {k : Nat} {a0 : Str} {a1 : Int} {a2 : Str} {r : Bool} (H : watchbilllaw01_UtfBack k a0 a1 a2 = some r) : Vx.Fn Try.prog 4 [(S a0), (.v (.int .i32 a1)), (S a2)] [] (.v (.bool r)) [] := by
  unfold watchbilllaw01_UtfBack at H
  refine Vx.Fn.of_ok Try.func4 rfl (Nat.le_of_ble_eq_true rfl) ?_
  refine Ok.seq ?_
  refine Ok.region (σ' := ⟨[(0, (S a0)), (1, (.v (.int .i32 a1))), (2, (S a2))], []⟩) ?_ ?_
  · refine OpsOk.cons rfl (.v (VOk.asg (d := (.v (.bool false))) rfl rfl) rfl) ?_
    exact .done (.mk ⟨.same _, .same _, .same _, trivial⟩ trivial)
  refine Ok.seq ?_
  refine Ok.seq ?_
  obtain ⟨t1, h2, H⟩ := bindE H
  refine Ok.region (σ' := ⟨[(0, (S a0)), (1, (.v (.int .i32 a1))), (2, (S a2)), (13, (.v (.bool (!t1))))], []⟩) ?_ ?_
  · refine OpsOk.cons rfl (.g (GOk.call rfl rfl cl9 rfl (watchbilllaw01_awake.ok h2) rfl) rfl) ?_
    refine OpsOk.cons rfl (.v (VOk.not (b := t1) rfl rfl) rfl) ?_
    exact .done (.mk ⟨.same _, .same _, .same _, .same _, trivial⟩ trivial)
  refine Ok.test (b := (!t1)) rfl (fun hb33 => ?_) (fun hb33 => ?_)
  · replace H := ifT H hb33
    refine Ok.seq ?_
    refine Ok.region (σ' := ⟨[(6, (.v (.bool false)))], []⟩) ?_ ?_
    · refine OpsOk.cons rfl (.v (VOk.asg (d := (.v (.bool false))) rfl rfl) rfl) ?_
      exact .done (.mk ⟨.same _, trivial⟩ trivial)
    refine Ok.le (σ' := ⟨[(6, (.v (.bool false)))], []⟩) (.mk ⟨.same _, trivial⟩ trivial) ?_
    refine Ok.ret ?_
    obtain rfl := Option.some.inj H
    exact ⟨.inl rfl, rfl, rfl⟩
  · replace H := ifF H hb33
    refine Ok.le (σ' := ⟨[(0, (S a0)), (1, (.v (.int .i32 a1))), (2, (S a2))], []⟩) (.mk ⟨.same _, .same _, .same _, trivial⟩ trivial) ?_
    refine Ok.skip ?_
    refine Ok.seq ?_
    refine Ok.seq ?_
    refine Ok.region (σ' := ⟨[(0, (S a0)), (1, (.v (.int .i32 a1))), (2, (S a2)), (21, (.v (.bool ((decide ((a0.length : Int) > 20000)) || (decide ((a2.length : Int) > 20000))))))], []⟩) ?_ ?_
    · refine OpsOk.cons rfl (.v (VOk.mv (d := (S a0)) rfl rfl) rfl) ?_
      refine OpsOk.cons rfl (.v (VOk.lenStr (s := a0) rfl Try.underlying9 rfl) rfl) ?_
      refine OpsOk.cons rfl (.v (VOk.arith (op := .gtr) (k := .i64) (a := (a0.length : Int)) (b := 20000) rfl rfl rfl rfl) rfl) ?_
      refine OpsOk.cons rfl (.v (VOk.mv (d := (.v (.bool (decide ((a0.length : Int) > 20000))))) rfl rfl) rfl) ?_
      refine OpsOk.consI rfl rfl rfl (.one rfl) rfl (fun hw3 => (VOk.g (VOk.mv (d := (S a2)) rfl rfl))) ?_
      refine OpsOk.consI rfl rfl rfl (.one rfl) rfl (fun hw3 => (GOk.fr (fr' := [(18, (S a2))]) ⟨DLe.of_eq (cT hw3).symm, trivial⟩ (VOk.g (VOk.lenStr (s := a2) rfl Try.underlying9 rfl)))) ?_
      refine OpsOk.consI rfl rfl rfl (.one rfl) rfl (fun hw3 => (GOk.fr (fr' := [(19, (.v (.int .i64 (a2.length : Int))))]) ⟨DLe.of_eq (cT hw3).symm, trivial⟩ (VOk.g (VOk.arith (op := .gtr) (k := .i64) (a := (a2.length : Int)) (b := 20000) rfl rfl rfl rfl)))) ?_
      refine OpsOk.cons rfl (.v (VOk.to (VOk.pickI (b := (decide ((a0.length : Int) > 20000))) (p := true) (q := (decide ((a2.length : Int) > 20000))) rfl rfl (fun hp4 => rfl) (fun hp4 => (cT (f_beq hp4)))) (pickOr (decide ((a0.length : Int) > 20000)) (decide ((a2.length : Int) > 20000)))) rfl) ?_
      exact .done (.mk ⟨.same _, .same _, .same _, .same _, trivial⟩ trivial)
    refine Ok.test (b := ((decide ((a0.length : Int) > 20000)) || (decide ((a2.length : Int) > 20000)))) rfl (fun hb32 => ?_) (fun hb32 => ?_)
    · replace H := ifT H hb32
      refine Ok.seq ?_
      refine Ok.region (σ' := ⟨[(6, (.v (.bool true)))], []⟩) ?_ ?_
      · refine OpsOk.cons rfl (.v (VOk.asg (d := (.v (.bool true))) rfl rfl) rfl) ?_
        exact .done (.mk ⟨.same _, trivial⟩ trivial)
      refine Ok.le (σ' := ⟨[(6, (.v (.bool true)))], []⟩) (.mk ⟨.same _, trivial⟩ trivial) ?_
      refine Ok.ret ?_
      obtain rfl := Option.some.inj H
      exact ⟨.inl rfl, rfl, rfl⟩
    · replace H := ifF H hb32
      refine Ok.le (σ' := ⟨[(0, (S a0)), (1, (.v (.int .i32 a1))), (2, (S a2))], []⟩) (.mk ⟨.same _, .same _, .same _, trivial⟩ trivial) ?_
      refine Ok.skip ?_
      refine Ok.seq ?_
      obtain ⟨t5, h6, H⟩ := bindE H
      refine Ok.region (σ' := ⟨[(0, (S a0)), (1, (.v (.int .i32 a1))), (2, (S a2)), (7, (S t5))], []⟩) ?_ ?_
      · refine OpsOk.cons rfl (.v (VOk.mv (d := (.v (.int .i32 a1))) rfl rfl) rfl) ?_
        refine OpsOk.cons rfl (.g (GOk.call rfl rfl cl12 rfl (utf_Put.ok h6) rfl) rfl) ?_
        refine OpsOk.cons rfl (.v (VOk.asg (d := (S t5)) rfl rfl) rfl) ?_
        exact .done (.mk ⟨.same _, .same _, .same _, .same _, trivial⟩ trivial)
      refine Ok.seq ?_
      refine Ok.seq ?_
      refine Ok.region (σ' := ⟨[(0, (S a0)), (1, (.v (.int .i32 a1))), (2, (S a2)), (7, (S t5)), (37, (.v (.bool (((decide (a1 < 0)) || (decide (a1 > 1114111))) || ((decide (a1 ≥ 55296)) && (decide (a1 ≤ 57343)))))))], []⟩) ?_ ?_
      · refine OpsOk.cons rfl (.v (VOk.mv (d := (.v (.int .i32 a1))) rfl rfl) rfl) ?_
        refine OpsOk.cons rfl (.v (VOk.arith (op := .lss) (k := .i32) (a := a1) (b := 0) rfl rfl rfl rfl) rfl) ?_
        refine OpsOk.cons rfl (.v (VOk.mv (d := (.v (.bool (decide (a1 < 0))))) rfl rfl) rfl) ?_
        refine OpsOk.consI rfl rfl rfl (.one rfl) rfl (fun hw7 => (VOk.g (VOk.mv (d := (.v (.int .i32 a1))) rfl rfl))) ?_
        refine OpsOk.consI rfl rfl rfl (.one rfl) rfl (fun hw7 => (GOk.fr (fr' := [(27, (.v (.int .i32 a1)))]) ⟨DLe.of_eq (cT hw7).symm, trivial⟩ (VOk.g (VOk.arith (op := .gtr) (k := .i32) (a := a1) (b := 1114111) rfl rfl rfl rfl)))) ?_
        refine OpsOk.cons rfl (.v (VOk.to (VOk.pickI (b := (decide (a1 < 0))) (p := true) (q := (decide (a1 > 1114111))) rfl rfl (fun hp8 => rfl) (fun hp8 => (cT (f_beq hp8)))) (pickOr (decide (a1 < 0)) (decide (a1 > 1114111)))) rfl) ?_
        refine OpsOk.cons rfl (.v (VOk.mv (d := (.v (.bool ((decide (a1 < 0)) || (decide (a1 > 1114111)))))) rfl rfl) rfl) ?_
        refine OpsOk.consI rfl rfl rfl (.one rfl) rfl (fun hw9 => (VOk.g (VOk.mv (d := (.v (.int .i32 a1))) rfl rfl))) ?_
        refine OpsOk.consI rfl rfl rfl (.one rfl) rfl (fun hw9 => (GOk.fr (fr' := [(31, (.v (.int .i32 a1)))]) ⟨DLe.of_eq (cT hw9).symm, trivial⟩ (VOk.g (VOk.arith (op := .geq) (k := .i32) (a := a1) (b := 55296) rfl rfl rfl rfl)))) ?_
        refine OpsOk.consI rfl rfl rfl (.one rfl) rfl (fun hw9 => (GOk.fr (fr' := [(32, (.v (.bool (decide (a1 ≥ 55296)))))]) ⟨DLe.of_eq (cT hw9).symm, trivial⟩ (VOk.g (VOk.mv (d := (.v (.bool (decide (a1 ≥ 55296))))) rfl rfl)))) ?_
        refine OpsOk.consI rfl rfl rfl (.two rfl) rfl (fun hw10 => (VOk.g (VOk.mv (d := (.v (.int .i32 a1))) rfl rfl))) ?_
        refine OpsOk.consI rfl rfl rfl (.two rfl) rfl (fun hw10 => (GOk.fr (fr' := [(34, (.v (.int .i32 a1)))]) ⟨DLe.of_eq (cT hw10).symm, trivial⟩ (VOk.g (VOk.arith (op := .leq) (k := .i32) (a := a1) (b := 57343) rfl rfl rfl rfl)))) ?_
        refine OpsOk.consI rfl rfl rfl (.one rfl) rfl (fun hw9 => (VOk.g (VOk.to (VOk.pickI (b := (decide (a1 ≥ 55296))) (p := (decide (a1 ≤ 57343))) (q := false) rfl (cT hw9) (fun hp11 => (cT (and_i hw9 (t_beq hp11)))) (fun hp11 => rfl)) (pickAnd (decide (a1 ≥ 55296)) (decide (a1 ≤ 57343)))))) ?_
        refine OpsOk.cons rfl (.v (VOk.to (VOk.pickI (b := ((decide (a1 < 0)) || (decide (a1 > 1114111)))) (p := true) (q := ((decide (a1 ≥ 55296)) && (decide (a1 ≤ 57343)))) rfl rfl (fun hp12 => rfl) (fun hp12 => (cT (f_beq hp12)))) (pickOr ((decide (a1 < 0)) || (decide (a1 > 1114111))) ((decide (a1 ≥ 55296)) && (decide (a1 ≤ 57343))))) rfl) ?_
        exact .done (.mk ⟨.same _, .same _, .same _, .same _, .same _, trivial⟩ trivial)
      refine Ok.test (b := (((decide (a1 < 0)) || (decide (a1 > 1114111))) || ((decide (a1 ≥ 55296)) && (decide (a1 ≤ 57343))))) rfl (fun hb31 => ?_) (fun hb31 => ?_)
      · replace H := ifT H hb31
        refine Ok.seq ?_
        refine Ok.region (σ' := ⟨[(6, (.v (.bool (t5 == ([] : Str)))))], []⟩) ?_ ?_
        · refine OpsOk.cons rfl (.v (VOk.mv (d := (S t5)) rfl rfl) rfl) ?_
          refine OpsOk.cons rfl (.v (VOk.strOp (op := .eql) (a := t5) (b := ([] : Str)) rfl rfl rfl rfl) rfl) ?_
          refine OpsOk.cons rfl (.v (VOk.asg (d := (.v (.bool (t5 == ([] : Str))))) rfl rfl) rfl) ?_
          exact .done (.mk ⟨.same _, trivial⟩ trivial)
        refine Ok.le (σ' := ⟨[(6, (.v (.bool (t5 == ([] : Str)))))], []⟩) (.mk ⟨.same _, trivial⟩ trivial) ?_
        refine Ok.ret ?_
        obtain rfl := Option.some.inj H
        exact ⟨.inl rfl, rfl, rfl⟩
      · replace H := ifF H hb31
        refine Ok.le (σ' := ⟨[(0, (S a0)), (1, (.v (.int .i32 a1))), (2, (S a2)), (7, (S t5))], []⟩) (.mk ⟨.same _, .same _, .same _, .same _, trivial⟩ trivial) ?_
        refine Ok.skip ?_
        refine Ok.seq ?_
        obtain ⟨c13, H⟩ := assertE H
        obtain ⟨c14, H⟩ := assertE H
        obtain ⟨t15, h16, H⟩ := bindE H
        refine Ok.region (σ' := ⟨[(0, (S a0)), (1, (.v (.int .i32 a1))), (7, (S t5)), (8, (.v (.int .i32 t15.1))), (9, (.v (.int .i64 t15.2)))], []⟩) ?_ ?_
        · refine OpsOk.cons rfl (.v (VOk.mv (d := (S a0)) rfl rfl) rfl) ?_
          refine OpsOk.cons rfl (.v (VOk.mv (d := (S t5)) rfl rfl) rfl) ?_
          refine OpsOk.cons rfl (.v (VOk.cat (a := a0) (b := t5) rfl rfl rfl c13) rfl) ?_
          refine OpsOk.cons rfl (.v (VOk.mv (d := (S a2)) rfl rfl) rfl) ?_
          refine OpsOk.cons rfl (.v (VOk.cat (a := (a0 ++ t5)) (b := a2) rfl rfl rfl c14) rfl) ?_
          refine OpsOk.cons rfl (.v (VOk.mv (d := (S a0)) rfl rfl) rfl) ?_
          refine OpsOk.cons rfl (.v (VOk.lenStr (s := a0) rfl Try.underlying9 rfl) rfl) ?_
          refine OpsOk.cons rfl (.g (GOk.call rfl rfl cl10 rfl (utf_Rune.ok h16) rfl) rfl) ?_
          refine OpsOk.cons rfl (.v (VOk.mv (d := (.tup [(.v (.int .i32 t15.1)), (.v (.int .i64 t15.2))])) rfl rfl) rfl) ?_
          refine OpsOk.cons rfl (.v (VOk.extract (d := (.v (.int .i32 t15.1))) rfl rfl rfl) rfl) ?_
          refine OpsOk.cons rfl (.v (VOk.extract (d := (.v (.int .i64 t15.2))) rfl rfl rfl) rfl) ?_
          refine OpsOk.cons rfl (.v (VOk.asg (d := (.v (.int .i32 t15.1))) rfl rfl) rfl) ?_
          refine OpsOk.cons rfl (.v (VOk.asg (d := (.v (.int .i64 t15.2))) rfl rfl) rfl) ?_
          exact .done (.mk ⟨.same _, .same _, .same _, .same _, .same _, trivial⟩ trivial)
        refine Ok.seq ?_
        obtain ⟨c17, H⟩ := assertE H
        obtain ⟨c18, H⟩ := assertE H
        obtain ⟨t19, h20, H⟩ := bindE H
        refine Ok.region (σ' := ⟨[(1, (.v (.int .i32 a1))), (7, (S t5)), (8, (.v (.int .i32 t15.1))), (9, (.v (.int .i64 t15.2))), (11, (.v (.int .i64 t19.2)))], []⟩) ?_ ?_
        · refine OpsOk.cons rfl (.v (VOk.mv (d := (S a0)) rfl rfl) rfl) ?_
          refine OpsOk.cons rfl (.v (VOk.mv (d := (S t5)) rfl rfl) rfl) ?_
          refine OpsOk.cons rfl (.v (VOk.mv (d := (S t5)) rfl rfl) rfl) ?_
          refine OpsOk.cons rfl (.v (VOk.lenStr (s := t5) rfl Try.underlying9 rfl) rfl) ?_
          refine OpsOk.cons rfl (.v (VOk.arith (op := .sub) (k := .i64) (a := (t5.length : Int)) (b := 1) rfl rfl rfl rfl) rfl) ?_
          refine OpsOk.cons rfl (.v (VOk.sliceStr (s := t5) (l := 0) (h := (IntKind.i64.wrap ((t5.length : Int) - 1))) rfl Try.underlying9 rfl rfl rfl c17) rfl) ?_
          refine OpsOk.cons rfl (.v (VOk.cat (a := a0) (b := (sl t5 0 (IntKind.i64.wrap ((t5.length : Int) - 1)))) rfl rfl rfl c18) rfl) ?_
          refine OpsOk.cons rfl (.v (VOk.mv (d := (S a0)) rfl rfl) rfl) ?_
          refine OpsOk.cons rfl (.v (VOk.lenStr (s := a0) rfl Try.underlying9 rfl) rfl) ?_
          refine OpsOk.cons rfl (.g (GOk.call rfl rfl cl10 rfl (utf_Rune.ok h20) rfl) rfl) ?_
          refine OpsOk.cons rfl (.v (VOk.mv (d := (.tup [(.v (.int .i32 t19.1)), (.v (.int .i64 t19.2))])) rfl rfl) rfl) ?_
          refine OpsOk.cons rfl (.v (VOk.extract (d := (.v (.int .i32 t19.1))) rfl rfl rfl) rfl) ?_
          refine OpsOk.cons rfl (.v (VOk.extract (d := (.v (.int .i64 t19.2))) rfl rfl rfl) rfl) ?_
          refine OpsOk.cons rfl (.v (VOk.asg (d := (.v (.int .i32 t19.1))) rfl rfl) rfl) ?_
          refine OpsOk.cons rfl (.v (VOk.asg (d := (.v (.int .i64 t19.2))) rfl rfl) rfl) ?_
          exact .done (.mk ⟨.same _, .same _, .same _, .same _, .same _, trivial⟩ trivial)
        refine Ok.seq ?_
        refine Ok.region (σ' := ⟨[(6, (.v (.bool ((((((decide ((t5.length : Int) ≥ 1)) && (decide ((t5.length : Int) ≤ 4))) && (t15.1 == a1)) && (t15.2 == (t5.length : Int))) && (t19.2 == 0)) && (((t5.length : Int) == 1) == (decide (a1 < 128)))))))], []⟩) ?_ ?_
        · refine OpsOk.cons rfl (.v (VOk.mv (d := (S t5)) rfl rfl) rfl) ?_
          refine OpsOk.cons rfl (.v (VOk.lenStr (s := t5) rfl Try.underlying9 rfl) rfl) ?_
          refine OpsOk.cons rfl (.v (VOk.arith (op := .geq) (k := .i64) (a := (t5.length : Int)) (b := 1) rfl rfl rfl rfl) rfl) ?_
          refine OpsOk.cons rfl (.v (VOk.mv (d := (.v (.bool (decide ((t5.length : Int) ≥ 1))))) rfl rfl) rfl) ?_
          refine OpsOk.consI rfl rfl rfl (.one rfl) rfl (fun hw21 => (VOk.g (VOk.mv (d := (S t5)) rfl rfl))) ?_
          refine OpsOk.consI rfl rfl rfl (.one rfl) rfl (fun hw21 => (GOk.fr (fr' := [(68, (S t5))]) ⟨DLe.of_eq (cT hw21).symm, trivial⟩ (VOk.g (VOk.lenStr (s := t5) rfl Try.underlying9 rfl)))) ?_
          refine OpsOk.consI rfl rfl rfl (.one rfl) rfl (fun hw21 => (GOk.fr (fr' := [(69, (.v (.int .i64 (t5.length : Int))))]) ⟨DLe.of_eq (cT hw21).symm, trivial⟩ (VOk.g (VOk.arith (op := .leq) (k := .i64) (a := (t5.length : Int)) (b := 4) rfl rfl rfl rfl)))) ?_
          refine OpsOk.cons rfl (.v (VOk.to (VOk.pickI (b := (decide ((t5.length : Int) ≥ 1))) (p := (decide ((t5.length : Int) ≤ 4))) (q := false) rfl rfl (fun hp22 => (cT (t_beq hp22))) (fun hp22 => rfl)) (pickAnd (decide ((t5.length : Int) ≥ 1)) (decide ((t5.length : Int) ≤ 4)))) rfl) ?_
          refine OpsOk.cons rfl (.v (VOk.mv (d := (.v (.bool ((decide ((t5.length : Int) ≥ 1)) && (decide ((t5.length : Int) ≤ 4)))))) rfl rfl) rfl) ?_
          refine OpsOk.consI rfl rfl rfl (.one rfl) rfl (fun hw23 => (VOk.g (VOk.mv (d := (.v (.int .i32 t15.1))) rfl rfl))) ?_
          refine OpsOk.consI rfl rfl rfl (.one rfl) rfl (fun hw23 => (VOk.g (VOk.mv (d := (.v (.int .i32 a1))) rfl rfl))) ?_
          refine OpsOk.consI rfl rfl rfl (.one rfl) rfl (fun hw23 => (GOk.fr (fr' := [(73, (.v (.int .i32 t15.1))), (74, (.v (.int .i32 a1)))]) ⟨DLe.of_eq (cT hw23).symm, DLe.of_eq (cT hw23).symm, trivial⟩ (VOk.g (VOk.arith (op := .eql) (k := .i32) (a := t15.1) (b := a1) rfl rfl rfl rfl)))) ?_
          refine OpsOk.cons rfl (.v (VOk.to (VOk.pickI (b := ((decide ((t5.length : Int) ≥ 1)) && (decide ((t5.length : Int) ≤ 4)))) (p := (t15.1 == a1)) (q := false) rfl rfl (fun hp24 => (cT (t_beq hp24))) (fun hp24 => rfl)) (pickAnd ((decide ((t5.length : Int) ≥ 1)) && (decide ((t5.length : Int) ≤ 4))) (t15.1 == a1))) rfl) ?_
          refine OpsOk.cons rfl (.v (VOk.mv (d := (.v (.bool (((decide ((t5.length : Int) ≥ 1)) && (decide ((t5.length : Int) ≤ 4))) && (t15.1 == a1))))) rfl rfl) rfl) ?_
          refine OpsOk.consI rfl rfl rfl (.one rfl) rfl (fun hw25 => (VOk.g (VOk.mv (d := (.v (.int .i64 t15.2))) rfl rfl))) ?_
          refine OpsOk.consI rfl rfl rfl (.one rfl) rfl (fun hw25 => (VOk.g (VOk.mv (d := (S t5)) rfl rfl))) ?_
          refine OpsOk.consI rfl rfl rfl (.one rfl) rfl (fun hw25 => (GOk.fr (fr' := [(79, (S t5))]) ⟨DLe.of_eq (cT hw25).symm, trivial⟩ (VOk.g (VOk.lenStr (s := t5) rfl Try.underlying9 rfl)))) ?_
          refine OpsOk.consI rfl rfl rfl (.one rfl) rfl (fun hw25 => (GOk.fr (fr' := [(78, (.v (.int .i64 t15.2))), (80, (.v (.int .i64 (t5.length : Int))))]) ⟨DLe.of_eq (cT hw25).symm, DLe.of_eq (cT hw25).symm, trivial⟩ (VOk.g (VOk.arith (op := .eql) (k := .i64) (a := t15.2) (b := (t5.length : Int)) rfl rfl rfl rfl)))) ?_
          refine OpsOk.cons rfl (.v (VOk.to (VOk.pickI (b := (((decide ((t5.length : Int) ≥ 1)) && (decide ((t5.length : Int) ≤ 4))) && (t15.1 == a1))) (p := (t15.2 == (t5.length : Int))) (q := false) rfl rfl (fun hp26 => (cT (t_beq hp26))) (fun hp26 => rfl)) (pickAnd (((decide ((t5.length : Int) ≥ 1)) && (decide ((t5.length : Int) ≤ 4))) && (t15.1 == a1)) (t15.2 == (t5.length : Int)))) rfl) ?_
          refine OpsOk.cons rfl (.v (VOk.mv (d := (.v (.bool ((((decide ((t5.length : Int) ≥ 1)) && (decide ((t5.length : Int) ≤ 4))) && (t15.1 == a1)) && (t15.2 == (t5.length : Int)))))) rfl rfl) rfl) ?_
          refine OpsOk.consI rfl rfl rfl (.one rfl) rfl (fun hw27 => (VOk.g (VOk.mv (d := (.v (.int .i64 t19.2))) rfl rfl))) ?_
          refine OpsOk.consI rfl rfl rfl (.one rfl) rfl (fun hw27 => (GOk.fr (fr' := [(84, (.v (.int .i64 t19.2)))]) ⟨DLe.of_eq (cT hw27).symm, trivial⟩ (VOk.g (VOk.arith (op := .eql) (k := .i64) (a := t19.2) (b := 0) rfl rfl rfl rfl)))) ?_
          refine OpsOk.cons rfl (.v (VOk.to (VOk.pickI (b := ((((decide ((t5.length : Int) ≥ 1)) && (decide ((t5.length : Int) ≤ 4))) && (t15.1 == a1)) && (t15.2 == (t5.length : Int)))) (p := (t19.2 == 0)) (q := false) rfl rfl (fun hp28 => (cT (t_beq hp28))) (fun hp28 => rfl)) (pickAnd ((((decide ((t5.length : Int) ≥ 1)) && (decide ((t5.length : Int) ≤ 4))) && (t15.1 == a1)) && (t15.2 == (t5.length : Int))) (t19.2 == 0))) rfl) ?_
          refine OpsOk.cons rfl (.v (VOk.mv (d := (.v (.bool (((((decide ((t5.length : Int) ≥ 1)) && (decide ((t5.length : Int) ≤ 4))) && (t15.1 == a1)) && (t15.2 == (t5.length : Int))) && (t19.2 == 0))))) rfl rfl) rfl) ?_
          refine OpsOk.consI rfl rfl rfl (.one rfl) rfl (fun hw29 => (VOk.g (VOk.mv (d := (S t5)) rfl rfl))) ?_
          refine OpsOk.consI rfl rfl rfl (.one rfl) rfl (fun hw29 => (GOk.fr (fr' := [(88, (S t5))]) ⟨DLe.of_eq (cT hw29).symm, trivial⟩ (VOk.g (VOk.lenStr (s := t5) rfl Try.underlying9 rfl)))) ?_
          refine OpsOk.consI rfl rfl rfl (.one rfl) rfl (fun hw29 => (GOk.fr (fr' := [(89, (.v (.int .i64 (t5.length : Int))))]) ⟨DLe.of_eq (cT hw29).symm, trivial⟩ (VOk.g (VOk.arith (op := .eql) (k := .i64) (a := (t5.length : Int)) (b := 1) rfl rfl rfl rfl)))) ?_
          refine OpsOk.consI rfl rfl rfl (.one rfl) rfl (fun hw29 => (VOk.g (VOk.mv (d := (.v (.int .i32 a1))) rfl rfl))) ?_
          refine OpsOk.consI rfl rfl rfl (.one rfl) rfl (fun hw29 => (GOk.fr (fr' := [(91, (.v (.int .i32 a1)))]) ⟨DLe.of_eq (cT hw29).symm, trivial⟩ (VOk.g (VOk.arith (op := .lss) (k := .i32) (a := a1) (b := 128) rfl rfl rfl rfl)))) ?_
          refine OpsOk.consI rfl rfl rfl (.one rfl) rfl (fun hw29 => (GOk.fr (fr' := [(90, (.v (.bool ((t5.length : Int) == 1)))), (92, (.v (.bool (decide (a1 < 128)))))]) ⟨DLe.of_eq (cT hw29).symm, DLe.of_eq (cT hw29).symm, trivial⟩ (VOk.g (VOk.eqB (op := .eql) (p := ((t5.length : Int) == 1)) (q := (decide (a1 < 128))) rfl (.inl rfl) Try.underlying4 rfl rfl)))) ?_
          refine OpsOk.cons rfl (.v (VOk.to (VOk.pickI (b := (((((decide ((t5.length : Int) ≥ 1)) && (decide ((t5.length : Int) ≤ 4))) && (t15.1 == a1)) && (t15.2 == (t5.length : Int))) && (t19.2 == 0))) (p := (((t5.length : Int) == 1) == (decide (a1 < 128)))) (q := false) rfl rfl (fun hp30 => (cT (t_beq hp30))) (fun hp30 => rfl)) (pickAnd (((((decide ((t5.length : Int) ≥ 1)) && (decide ((t5.length : Int) ≤ 4))) && (t15.1 == a1)) && (t15.2 == (t5.length : Int))) && (t19.2 == 0)) (((t5.length : Int) == 1) == (decide (a1 < 128))))) rfl) ?_
          refine OpsOk.cons rfl (.v (VOk.asg (d := (.v (.bool ((((((decide ((t5.length : Int) ≥ 1)) && (decide ((t5.length : Int) ≤ 4))) && (t15.1 == a1)) && (t15.2 == (t5.length : Int))) && (t19.2 == 0)) && (((t5.length : Int) == 1) == (decide (a1 < 128))))))) rfl rfl) rfl) ?_
          exact .done (.mk ⟨.same _, trivial⟩ trivial)
        refine Ok.le (σ' := ⟨[(6, (.v (.bool ((((((decide ((t5.length : Int) ≥ 1)) && (decide ((t5.length : Int) ≤ 4))) && (t15.1 == a1)) && (t15.2 == (t5.length : Int))) && (t19.2 == 0)) && (((t5.length : Int) == 1) == (decide (a1 < 128)))))))], []⟩) (.mk ⟨.same _, trivial⟩ trivial) ?_
        refine Ok.ret ?_
        obtain rfl := Option.some.inj H
        exact ⟨.inl rfl, rfl, rfl⟩

/-! watchbill/watchbillref01.Check: function 14 -/
def watchbillref01_Check.l0 (k : Nat) (a0 : Str) : Nat → Int → Option Int
  | 0, _ => none
  | m + 1, x3_1 => (if (decide (x3_1 < (a0.length : Int))) = true then ((watchbillref01_Rune k a0 x3_1).bind fun (t3 : Int × Int) => (if (t3.2 == 0) = true then some x3_1 else watchbillref01_Check.l0 k a0 m (IntKind.i64.wrap (x3_1 + t3.2)))) else some (-1))
def watchbillref01_Check (k : Nat) (a0 : Str) : Option Int := watchbillref01_Check.l0 k a0 k 0
theorem watchbillref01_Check.ok {k : Nat} {a0 : Str} {r : Int} (H : watchbillref01_Check k a0 = some r) : Vx.Fn Try.prog 14 [(S a0)] [] (.v (.int .i64 r)) [] := by
  unfold watchbillref01_Check at H
  refine Vx.Fn.of_ok Try.func14 rfl (Nat.le_of_ble_eq_true rfl) ?_
  refine Ok.seq ?_
  refine Ok.region (σ' := ⟨[(0, (S a0))], []⟩) ?_ ?_
  · refine OpsOk.cons rfl (.v (VOk.asg (d := (.v (.int .i64 0))) rfl rfl) rfl) ?_
    exact .done (.mk ⟨.same _, trivial⟩ trivial)
  refine Ok.seq ?_
  refine Ok.region (σ' := ⟨[(0, (S a0)), (3, (.v (.int .i64 0)))], []⟩) ?_ ?_
  · refine OpsOk.cons rfl (.v (VOk.asg (d := (.v (.int .i64 0))) rfl rfl) rfl) ?_
    exact .done (.mk ⟨.same _, .same _, trivial⟩ trivial)
  refine Ok.seq ?_
  refine Ok.block ?_
  refine Ok.le (σ' := ⟨[(0, (S a0)), (3, (.v (.int .i64 0)))], []⟩) (.mk ⟨.same _, .same _, trivial⟩ trivial) ?_
  refine Ok.loop (fun m σ => ∃ (x3_1 : Int), σ = ⟨[(0, (S a0)), (3, (.v (.int .i64 x3_1)))], []⟩ ∧ watchbillref01_Check.l0 k a0 m x3_1 = some r) k ⟨0, rfl, H⟩ ?_
  rintro m σ ⟨x3_1, rfl, H⟩
  cases m with
  | zero => exact absurd H (by simp [watchbillref01_Check.l0])
  | succ m =>
    unfold watchbillref01_Check.l0 at H
    refine Ok.seq ?_
    refine Ok.seq ?_
    refine Ok.region (σ' := ⟨[(0, (S a0)), (3, (.v (.int .i64 x3_1))), (9, (.v (.bool (decide (x3_1 < (a0.length : Int))))))], []⟩) ?_ ?_
    · refine OpsOk.cons rfl (.v (VOk.mv (d := (.v (.int .i64 x3_1))) rfl rfl) rfl) ?_
      refine OpsOk.cons rfl (.v (VOk.mv (d := (S a0)) rfl rfl) rfl) ?_
      refine OpsOk.cons rfl (.v (VOk.lenStr (s := a0) rfl Try.underlying9 rfl) rfl) ?_
      refine OpsOk.cons rfl (.v (VOk.arith (op := .lss) (k := .i64) (a := x3_1) (b := (a0.length : Int)) rfl rfl rfl rfl) rfl) ?_
      exact .done (.mk ⟨.same _, .same _, .same _, trivial⟩ trivial)
    refine Ok.test (b := (decide (x3_1 < (a0.length : Int)))) rfl (fun hb6 => ?_) (fun hb6 => ?_)
    · replace H := ifT H hb6
      refine Ok.le (σ' := ⟨[(0, (S a0)), (3, (.v (.int .i64 x3_1)))], []⟩) (.mk ⟨.same _, .same _, trivial⟩ trivial) ?_
      refine Ok.skip ?_
      refine Ok.block ?_
      refine Ok.seq ?_
      obtain ⟨t3, h4, H⟩ := bindE H
      refine Ok.region (σ' := ⟨[(0, (S a0)), (3, (.v (.int .i64 x3_1))), (5, (.v (.int .i64 t3.2)))], []⟩) ?_ ?_
      · refine OpsOk.cons rfl (.v (VOk.mv (d := (S a0)) rfl rfl) rfl) ?_
        refine OpsOk.cons rfl (.v (VOk.mv (d := (.v (.int .i64 x3_1))) rfl rfl) rfl) ?_
        refine OpsOk.cons rfl (.g (GOk.call rfl rfl cl11 rfl (watchbillref01_Rune.ok h4) rfl) rfl) ?_
        refine OpsOk.cons rfl (.v (VOk.mv (d := (.tup [(.v (.int .i64 t3.1)), (.v (.int .i64 t3.2))])) rfl rfl) rfl) ?_
        refine OpsOk.cons rfl (.v (VOk.extract (d := (.v (.int .i64 t3.1))) rfl rfl rfl) rfl) ?_
        refine OpsOk.cons rfl (.v (VOk.extract (d := (.v (.int .i64 t3.2))) rfl rfl rfl) rfl) ?_
        refine OpsOk.cons rfl (.v (VOk.asg (d := (.v (.int .i64 t3.1))) rfl rfl) rfl) ?_
        refine OpsOk.cons rfl (.v (VOk.asg (d := (.v (.int .i64 t3.2))) rfl rfl) rfl) ?_
        exact .done (.mk ⟨.same _, .same _, .same _, trivial⟩ trivial)
      refine Ok.seq ?_
      refine Ok.seq ?_
      refine Ok.region (σ' := ⟨[(0, (S a0)), (3, (.v (.int .i64 x3_1))), (5, (.v (.int .i64 t3.2))), (17, (.v (.bool (t3.2 == 0))))], []⟩) ?_ ?_
      · refine OpsOk.cons rfl (.v (VOk.mv (d := (.v (.int .i64 t3.2))) rfl rfl) rfl) ?_
        refine OpsOk.cons rfl (.v (VOk.arith (op := .eql) (k := .i64) (a := t3.2) (b := 0) rfl rfl rfl rfl) rfl) ?_
        exact .done (.mk ⟨.same _, .same _, .same _, .same _, trivial⟩ trivial)
      refine Ok.test (b := (t3.2 == 0)) rfl (fun hb5 => ?_) (fun hb5 => ?_)
      · replace H := ifT H hb5
        refine Ok.seq ?_
        refine Ok.region (σ' := ⟨[(2, (.v (.int .i64 x3_1)))], []⟩) ?_ ?_
        · refine OpsOk.cons rfl (.v (VOk.mv (d := (.v (.int .i64 x3_1))) rfl rfl) rfl) ?_
          refine OpsOk.cons rfl (.v (VOk.asg (d := (.v (.int .i64 x3_1))) rfl rfl) rfl) ?_
          exact .done (.mk ⟨.same _, trivial⟩ trivial)
        refine Ok.le (σ' := ⟨[(2, (.v (.int .i64 x3_1)))], []⟩) (.mk ⟨.same _, trivial⟩ trivial) ?_
        refine Ok.ret ?_
        obtain rfl := Option.some.inj H
        exact ⟨.inl rfl, rfl, rfl⟩
      · replace H := ifF H hb5
        refine Ok.le (σ' := ⟨[(0, (S a0)), (3, (.v (.int .i64 x3_1))), (5, (.v (.int .i64 t3.2)))], []⟩) (.mk ⟨.same _, .same _, .same _, trivial⟩ trivial) ?_
        refine Ok.skip ?_
        refine Ok.region (σ' := ⟨[(0, (S a0)), (3, (.v (.int .i64 (IntKind.i64.wrap (x3_1 + t3.2)))))], []⟩) ?_ ?_
        · refine OpsOk.cons rfl (.v (VOk.mv (d := (.v (.int .i64 x3_1))) rfl rfl) rfl) ?_
          refine OpsOk.cons rfl (.v (VOk.mv (d := (.v (.int .i64 t3.2))) rfl rfl) rfl) ?_
          refine OpsOk.cons rfl (.v (VOk.arith (op := .add) (k := .i64) (a := x3_1) (b := t3.2) rfl rfl rfl rfl) rfl) ?_
          refine OpsOk.cons rfl (.v (VOk.asg (d := (.v (.int .i64 (IntKind.i64.wrap (x3_1 + t3.2))))) rfl rfl) rfl) ?_
          exact .done (.mk ⟨.same _, .same _, trivial⟩ trivial)
        exact ⟨m, Nat.lt_succ_self m, (IntKind.i64.wrap (x3_1 + t3.2)), rfl, H⟩
    · replace H := ifF H hb6
      refine Ok.le (σ' := ⟨[], []⟩) (.mk trivial trivial) ?_
      refine Ok.exit ?_
      refine Ok.seq ?_
      refine Ok.region (σ' := ⟨[(2, (.v (.int .i64 (-1))))], []⟩) ?_ ?_
      · refine OpsOk.cons rfl (.v (VOk.asg (d := (.v (.int .i64 (-1)))) rfl rfl) rfl) ?_
        exact .done (.mk ⟨.same _, trivial⟩ trivial)
      refine Ok.le (σ' := ⟨[(2, (.v (.int .i64 (-1))))], []⟩) (.mk ⟨.same _, trivial⟩ trivial) ?_
      refine Ok.ret ?_
      obtain rfl := Option.some.inj H
      exact ⟨.inl rfl, rfl, rfl⟩

/-! watchbill/watchbilllaw01.UtfChecks: function 5 -/
def watchbilllaw01_UtfChecks (k : Nat) (a0 : Str) (a1 : Str) : Option Bool := ((watchbilllaw01_awake k).bind fun (t1 : Bool) => (if (!t1) = true then some false else (if ((decide ((a0.length : Int) > 20000)) || (decide ((a1.length : Int) > 20000))) = true then some true else ((utf_Check k a0).bind fun (t5 : Int) => ((watchbillref01_Check k a0).bind fun (t7 : Int) => (if (t5 != t7) = true then some false else (if (decide (t5 ≥ 0)) = true then (if (0 : Int) ≤ 0 ∧ 0 ≤ t5 ∧ t5 ≤ (a0.length : Int) then ((utf_Check k (sl a0 0 t5)).bind fun (t10 : Int) => some (t10 == (-1))) else none) else ((utf_Check k a1).bind fun (t12 : Int) => (if (decide (t12 < 0)) = true then (if a0.length + a1.length ≤ 9223372036854775807 then ((utf_Check k (a0 ++ a1)).bind fun (t15 : Int) => some (t15 == (-1))) else none) else (if a0.length + a1.length ≤ 9223372036854775807 then ((utf_Check k (a0 ++ a1)).bind fun (t18 : Int) => some (t18 == (IntKind.i64.wrap ((a0.length : Int) + t12)))) else none))))))))))
theorem watchbilllaw01_UtfChecks.ok {k : Nat} {a0 : Str} {a1 : Str} {r : Bool} (H : watchbilllaw01_UtfChecks k a0 a1 = some r) : Vx.Fn Try.prog 5 [(S a0), (S a1)] [] (.v (.bool r)) [] := by
  unfold watchbilllaw01_UtfChecks at H
  refine Vx.Fn.of_ok Try.func5 rfl (Nat.le_of_ble_eq_true rfl) ?_
  refine Ok.seq ?_
  refine Ok.region (σ' := ⟨[(0, (S a0)), (1, (S a1))], []⟩) ?_ ?_
  · refine OpsOk.cons rfl (.v (VOk.asg (d := (.v (.bool false))) rfl rfl) rfl) ?_
    exact .done (.mk ⟨.same _, .same _, trivial⟩ trivial)
  refine Ok.seq ?_
  refine Ok.seq ?_
  obtain ⟨t1, h2, H⟩ := bindE H
  refine Ok.region (σ' := ⟨[(0, (S a0)), (1, (S a1)), (8, (.v (.bool (!t1))))], []⟩) ?_ ?_
  · refine OpsOk.cons rfl (.g (GOk.call rfl rfl cl9 rfl (watchbilllaw01_awake.ok h2) rfl) rfl) ?_
    refine OpsOk.cons rfl (.v (VOk.not (b := t1) rfl rfl) rfl) ?_
    exact .done (.mk ⟨.same _, .same _, .same _, trivial⟩ trivial)
  refine Ok.test (b := (!t1)) rfl (fun hb24 => ?_) (fun hb24 => ?_)
  · replace H := ifT H hb24
    refine Ok.seq ?_
    refine Ok.region (σ' := ⟨[(4, (.v (.bool false)))], []⟩) ?_ ?_
    · refine OpsOk.cons rfl (.v (VOk.asg (d := (.v (.bool false))) rfl rfl) rfl) ?_
      exact .done (.mk ⟨.same _, trivial⟩ trivial)
    refine Ok.le (σ' := ⟨[(4, (.v (.bool false)))], []⟩) (.mk ⟨.same _, trivial⟩ trivial) ?_
    refine Ok.ret ?_
    obtain rfl := Option.some.inj H
    exact ⟨.inl rfl, rfl, rfl⟩
  · replace H := ifF H hb24
    refine Ok.le (σ' := ⟨[(0, (S a0)), (1, (S a1))], []⟩) (.mk ⟨.same _, .same _, trivial⟩ trivial) ?_
    refine Ok.skip ?_
    refine Ok.seq ?_
    refine Ok.seq ?_
    refine Ok.region (σ' := ⟨[(0, (S a0)), (1, (S a1)), (16, (.v (.bool ((decide ((a0.length : Int) > 20000)) || (decide ((a1.length : Int) > 20000))))))], []⟩) ?_ ?_
    · refine OpsOk.cons rfl (.v (VOk.mv (d := (S a0)) rfl rfl) rfl) ?_
      refine OpsOk.cons rfl (.v (VOk.lenStr (s := a0) rfl Try.underlying9 rfl) rfl) ?_
      refine OpsOk.cons rfl (.v (VOk.arith (op := .gtr) (k := .i64) (a := (a0.length : Int)) (b := 20000) rfl rfl rfl rfl) rfl) ?_
      refine OpsOk.cons rfl (.v (VOk.mv (d := (.v (.bool (decide ((a0.length : Int) > 20000))))) rfl rfl) rfl) ?_
      refine OpsOk.consI rfl rfl rfl (.one rfl) rfl (fun hw3 => (VOk.g (VOk.mv (d := (S a1)) rfl rfl))) ?_
      refine OpsOk.consI rfl rfl rfl (.one rfl) rfl (fun hw3 => (GOk.fr (fr' := [(13, (S a1))]) ⟨DLe.of_eq (cT hw3).symm, trivial⟩ (VOk.g (VOk.lenStr (s := a1) rfl Try.underlying9 rfl)))) ?_
      refine OpsOk.consI rfl rfl rfl (.one rfl) rfl (fun hw3 => (GOk.fr (fr' := [(14, (.v (.int .i64 (a1.length : Int))))]) ⟨DLe.of_eq (cT hw3).symm, trivial⟩ (VOk.g (VOk.arith (op := .gtr) (k := .i64) (a := (a1.length : Int)) (b := 20000) rfl rfl rfl rfl)))) ?_
      refine OpsOk.cons rfl (.v (VOk.to (VOk.pickI (b := (decide ((a0.length : Int) > 20000))) (p := true) (q := (decide ((a1.length : Int) > 20000))) rfl rfl (fun hp4 => rfl) (fun hp4 => (cT (f_beq hp4)))) (pickOr (decide ((a0.length : Int) > 20000)) (decide ((a1.length : Int) > 20000)))) rfl) ?_
      exact .done (.mk ⟨.same _, .same _, .same _, trivial⟩ trivial)
    refine Ok.test (b := ((decide ((a0.length : Int) > 20000)) || (decide ((a1.length : Int) > 20000)))) rfl (fun hb23 => ?_) (fun hb23 => ?_)
    · replace H := ifT H hb23
      refine Ok.seq ?_
      refine Ok.region (σ' := ⟨[(4, (.v (.bool true)))], []⟩) ?_ ?_
      · refine OpsOk.cons rfl (.v (VOk.asg (d := (.v (.bool true))) rfl rfl) rfl) ?_
        exact .done (.mk ⟨.same _, trivial⟩ trivial)
      refine Ok.le (σ' := ⟨[(4, (.v (.bool true)))], []⟩) (.mk ⟨.same _, trivial⟩ trivial) ?_
      refine Ok.ret ?_
      obtain rfl := Option.some.inj H
      exact ⟨.inl rfl, rfl, rfl⟩
    · replace H := ifF H hb23
      refine Ok.le (σ' := ⟨[(0, (S a0)), (1, (S a1))], []⟩) (.mk ⟨.same _, .same _, trivial⟩ trivial) ?_
      refine Ok.skip ?_
      refine Ok.seq ?_
      obtain ⟨t5, h6, H⟩ := bindE H
      refine Ok.region (σ' := ⟨[(0, (S a0)), (1, (S a1)), (5, (.v (.int .i64 t5)))], []⟩) ?_ ?_
      · refine OpsOk.cons rfl (.v (VOk.mv (d := (S a0)) rfl rfl) rfl) ?_
        refine OpsOk.cons rfl (.g (GOk.call rfl rfl cl13 rfl (utf_Check.ok h6) rfl) rfl) ?_
        refine OpsOk.cons rfl (.v (VOk.asg (d := (.v (.int .i64 t5))) rfl rfl) rfl) ?_
        exact .done (.mk ⟨.same _, .same _, .same _, trivial⟩ trivial)
      refine Ok.seq ?_
      refine Ok.seq ?_
      obtain ⟨t7, h8, H⟩ := bindE H
      refine Ok.region (σ' := ⟨[(0, (S a0)), (1, (S a1)), (5, (.v (.int .i64 t5))), (22, (.v (.bool (t5 != t7))))], []⟩) ?_ ?_
      · refine OpsOk.cons rfl (.v (VOk.mv (d := (.v (.int .i64 t5))) rfl rfl) rfl) ?_
        refine OpsOk.cons rfl (.v (VOk.mv (d := (S a0)) rfl rfl) rfl) ?_
        refine OpsOk.cons rfl (.g (GOk.call rfl rfl cl14 rfl (watchbillref01_Check.ok h8) rfl) rfl) ?_
        refine OpsOk.cons rfl (.v (VOk.arith (op := .neq) (k := .i64) (a := t5) (b := t7) rfl rfl rfl rfl) rfl) ?_
        exact .done (.mk ⟨.same _, .same _, .same _, .same _, trivial⟩ trivial)
      refine Ok.test (b := (t5 != t7)) rfl (fun hb22 => ?_) (fun hb22 => ?_)
      · replace H := ifT H hb22
        refine Ok.seq ?_
        refine Ok.region (σ' := ⟨[(4, (.v (.bool false)))], []⟩) ?_ ?_
        · refine OpsOk.cons rfl (.v (VOk.asg (d := (.v (.bool false))) rfl rfl) rfl) ?_
          exact .done (.mk ⟨.same _, trivial⟩ trivial)
        refine Ok.le (σ' := ⟨[(4, (.v (.bool false)))], []⟩) (.mk ⟨.same _, trivial⟩ trivial) ?_
        refine Ok.ret ?_
        obtain rfl := Option.some.inj H
        exact ⟨.inl rfl, rfl, rfl⟩
      · replace H := ifF H hb22
        refine Ok.le (σ' := ⟨[(0, (S a0)), (1, (S a1)), (5, (.v (.int .i64 t5)))], []⟩) (.mk ⟨.same _, .same _, .same _, trivial⟩ trivial) ?_
        refine Ok.skip ?_
        refine Ok.seq ?_
        refine Ok.seq ?_
        refine Ok.region (σ' := ⟨[(0, (S a0)), (1, (S a1)), (5, (.v (.int .i64 t5))), (24, (.v (.bool (decide (t5 ≥ 0)))))], []⟩) ?_ ?_
        · refine OpsOk.cons rfl (.v (VOk.mv (d := (.v (.int .i64 t5))) rfl rfl) rfl) ?_
          refine OpsOk.cons rfl (.v (VOk.arith (op := .geq) (k := .i64) (a := t5) (b := 0) rfl rfl rfl rfl) rfl) ?_
          exact .done (.mk ⟨.same _, .same _, .same _, .same _, trivial⟩ trivial)
        refine Ok.test (b := (decide (t5 ≥ 0))) rfl (fun hb21 => ?_) (fun hb21 => ?_)
        · replace H := ifT H hb21
          refine Ok.seq ?_
          obtain ⟨c9, H⟩ := assertE H
          obtain ⟨t10, h11, H⟩ := bindE H
          refine Ok.region (σ' := ⟨[(4, (.v (.bool (t10 == (-1)))))], []⟩) ?_ ?_
          · refine OpsOk.cons rfl (.v (VOk.mv (d := (S a0)) rfl rfl) rfl) ?_
            refine OpsOk.cons rfl (.v (VOk.mv (d := (.v (.int .i64 t5))) rfl rfl) rfl) ?_
            refine OpsOk.cons rfl (.v (VOk.sliceStr (s := a0) (l := 0) (h := t5) rfl Try.underlying9 rfl rfl rfl c9) rfl) ?_
            refine OpsOk.cons rfl (.g (GOk.call rfl rfl cl13 rfl (utf_Check.ok h11) rfl) rfl) ?_
            refine OpsOk.cons rfl (.v (VOk.arith (op := .eql) (k := .i64) (a := t10) (b := (-1)) rfl rfl rfl rfl) rfl) ?_
            refine OpsOk.cons rfl (.v (VOk.asg (d := (.v (.bool (t10 == (-1))))) rfl rfl) rfl) ?_
            exact .done (.mk ⟨.same _, trivial⟩ trivial)
          refine Ok.le (σ' := ⟨[(4, (.v (.bool (t10 == (-1)))))], []⟩) (.mk ⟨.same _, trivial⟩ trivial) ?_
          refine Ok.ret ?_
          obtain rfl := Option.some.inj H
          exact ⟨.inl rfl, rfl, rfl⟩
        · replace H := ifF H hb21
          refine Ok.le (σ' := ⟨[(0, (S a0)), (1, (S a1))], []⟩) (.mk ⟨.same _, .same _, trivial⟩ trivial) ?_
          refine Ok.skip ?_
          refine Ok.seq ?_
          obtain ⟨t12, h13, H⟩ := bindE H
          refine Ok.region (σ' := ⟨[(0, (S a0)), (1, (S a1)), (6, (.v (.int .i64 t12)))], []⟩) ?_ ?_
          · refine OpsOk.cons rfl (.v (VOk.mv (d := (S a1)) rfl rfl) rfl) ?_
            refine OpsOk.cons rfl (.g (GOk.call rfl rfl cl13 rfl (utf_Check.ok h13) rfl) rfl) ?_
            refine OpsOk.cons rfl (.v (VOk.asg (d := (.v (.int .i64 t12))) rfl rfl) rfl) ?_
            exact .done (.mk ⟨.same _, .same _, .same _, trivial⟩ trivial)
          refine Ok.seq ?_
          refine Ok.seq ?_
          refine Ok.region (σ' := ⟨[(0, (S a0)), (1, (S a1)), (6, (.v (.int .i64 t12))), (33, (.v (.bool (decide (t12 < 0)))))], []⟩) ?_ ?_
          · refine OpsOk.cons rfl (.v (VOk.mv (d := (.v (.int .i64 t12))) rfl rfl) rfl) ?_
            refine OpsOk.cons rfl (.v (VOk.arith (op := .lss) (k := .i64) (a := t12) (b := 0) rfl rfl rfl rfl) rfl) ?_
            exact .done (.mk ⟨.same _, .same _, .same _, .same _, trivial⟩ trivial)
          refine Ok.test (b := (decide (t12 < 0))) rfl (fun hb20 => ?_) (fun hb20 => ?_)
          · replace H := ifT H hb20
            refine Ok.seq ?_
            obtain ⟨c14, H⟩ := assertE H
            obtain ⟨t15, h16, H⟩ := bindE H
            refine Ok.region (σ' := ⟨[(4, (.v (.bool (t15 == (-1)))))], []⟩) ?_ ?_
            · refine OpsOk.cons rfl (.v (VOk.mv (d := (S a0)) rfl rfl) rfl) ?_
              refine OpsOk.cons rfl (.v (VOk.mv (d := (S a1)) rfl rfl) rfl) ?_
              refine OpsOk.cons rfl (.v (VOk.cat (a := a0) (b := a1) rfl rfl rfl c14) rfl) ?_
              refine OpsOk.cons rfl (.g (GOk.call rfl rfl cl13 rfl (utf_Check.ok h16) rfl) rfl) ?_
              refine OpsOk.cons rfl (.v (VOk.arith (op := .eql) (k := .i64) (a := t15) (b := (-1)) rfl rfl rfl rfl) rfl) ?_
              refine OpsOk.cons rfl (.v (VOk.asg (d := (.v (.bool (t15 == (-1))))) rfl rfl) rfl) ?_
              exact .done (.mk ⟨.same _, trivial⟩ trivial)
            refine Ok.le (σ' := ⟨[(4, (.v (.bool (t15 == (-1)))))], []⟩) (.mk ⟨.same _, trivial⟩ trivial) ?_
            refine Ok.ret ?_
            obtain rfl := Option.some.inj H
            exact ⟨.inl rfl, rfl, rfl⟩
          · replace H := ifF H hb20
            refine Ok.le (σ' := ⟨[(0, (S a0)), (1, (S a1)), (6, (.v (.int .i64 t12)))], []⟩) (.mk ⟨.same _, .same _, .same _, trivial⟩ trivial) ?_
            refine Ok.skip ?_
            refine Ok.seq ?_
            obtain ⟨c17, H⟩ := assertE H
            obtain ⟨t18, h19, H⟩ := bindE H
            refine Ok.region (σ' := ⟨[(4, (.v (.bool (t18 == (IntKind.i64.wrap ((a0.length : Int) + t12))))))], []⟩) ?_ ?_
            · refine OpsOk.cons rfl (.v (VOk.mv (d := (S a0)) rfl rfl) rfl) ?_
              refine OpsOk.cons rfl (.v (VOk.mv (d := (S a1)) rfl rfl) rfl) ?_
              refine OpsOk.cons rfl (.v (VOk.cat (a := a0) (b := a1) rfl rfl rfl c17) rfl) ?_
              refine OpsOk.cons rfl (.g (GOk.call rfl rfl cl13 rfl (utf_Check.ok h19) rfl) rfl) ?_
              refine OpsOk.cons rfl (.v (VOk.mv (d := (S a0)) rfl rfl) rfl) ?_
              refine OpsOk.cons rfl (.v (VOk.lenStr (s := a0) rfl Try.underlying9 rfl) rfl) ?_
              refine OpsOk.cons rfl (.v (VOk.mv (d := (.v (.int .i64 t12))) rfl rfl) rfl) ?_
              refine OpsOk.cons rfl (.v (VOk.arith (op := .add) (k := .i64) (a := (a0.length : Int)) (b := t12) rfl rfl rfl rfl) rfl) ?_
              refine OpsOk.cons rfl (.v (VOk.arith (op := .eql) (k := .i64) (a := t18) (b := (IntKind.i64.wrap ((a0.length : Int) + t12))) rfl rfl rfl rfl) rfl) ?_
              refine OpsOk.cons rfl (.v (VOk.asg (d := (.v (.bool (t18 == (IntKind.i64.wrap ((a0.length : Int) + t12)))))) rfl rfl) rfl) ?_
              exact .done (.mk ⟨.same _, trivial⟩ trivial)
            refine Ok.le (σ' := ⟨[(4, (.v (.bool (t18 == (IntKind.i64.wrap ((a0.length : Int) + t12))))))], []⟩) (.mk ⟨.same _, trivial⟩ trivial) ?_
            refine Ok.ret ?_
            obtain rfl := Option.some.inj H
            exact ⟨.inl rfl, rfl, rfl⟩

/-! watchbill/watchbillref01.in: function 35 -/
def watchbillref01_in.l0 (k : Nat) (a0 : Int) (a1 : List Int) : Nat → Int → Option Bool
  | 0, _ => none
  | m + 1, x5_1 => (if (decide ((IntKind.i64.wrap (x5_1 + 1)) < (a1.length : Int))) = true then (if (0 : Int) ≤ x5_1 ∧ x5_1 < (a1.length : Int) then (if (((decide (a0 ≥ (rd a1 x5_1))) == true) = true → (0 : Int) ≤ (IntKind.i64.wrap (x5_1 + 1)) ∧ (IntKind.i64.wrap (x5_1 + 1)) < (a1.length : Int)) then (if ((decide (a0 ≥ (rd a1 x5_1))) && (decide (a0 ≤ (rd a1 (IntKind.i64.wrap (x5_1 + 1)))))) = true then some true else watchbillref01_in.l0 k a0 a1 m (IntKind.i64.wrap (x5_1 + 2))) else none) else none) else some false)
def watchbillref01_in (k : Nat) (a0 : Int) (a1 : List Int) : Option Bool := watchbillref01_in.l0 k a0 a1 k 0
theorem watchbillref01_in.ok {k : Nat} {a0 : Int} {a1 : List Int} {r : Bool} (H : watchbillref01_in k a0 a1 = some r) : Vx.Fn Try.prog 35 [(.v (.int .i64 a0)), (L 1 (eI .i64) a1)] [] (.v (.bool r)) [] := by
  unfold watchbillref01_in at H
  refine Vx.Fn.of_ok Try.func35 rfl (Nat.le_of_ble_eq_true rfl) ?_
  refine Ok.seq ?_
  refine Ok.region (σ' := ⟨[(0, (.v (.int .i64 a0))), (1, (L 1 (eI .i64) a1))], []⟩) ?_ ?_
  · refine OpsOk.cons rfl (.v (VOk.asg (d := (.v (.bool false))) rfl rfl) rfl) ?_
    exact .done (.mk ⟨.same _, .same _, trivial⟩ trivial)
  refine Ok.seq ?_
  refine Ok.seq ?_
  refine Ok.region (σ' := ⟨[(0, (.v (.int .i64 a0))), (1, (L 1 (eI .i64) a1)), (5, (.v (.int .i64 0)))], []⟩) ?_ ?_
  · refine OpsOk.cons rfl (.v (VOk.asg (d := (.v (.int .i64 0))) rfl rfl) rfl) ?_
    exact .done (.mk ⟨.same _, .same _, .same _, trivial⟩ trivial)
  refine Ok.block ?_
  refine Ok.le (σ' := ⟨[(0, (.v (.int .i64 a0))), (1, (L 1 (eI .i64) a1)), (5, (.v (.int .i64 0)))], []⟩) (.mk ⟨.same _, .same _, .same _, trivial⟩ trivial) ?_
  refine Ok.loop (fun m σ => ∃ (x5_1 : Int), σ = ⟨[(0, (.v (.int .i64 a0))), (1, (L 1 (eI .i64) a1)), (5, (.v (.int .i64 x5_1)))], []⟩ ∧ watchbillref01_in.l0 k a0 a1 m x5_1 = some r) k ⟨0, rfl, H⟩ ?_
  rintro m σ ⟨x5_1, rfl, H⟩
  cases m with
  | zero => exact absurd H (by simp [watchbillref01_in.l0])
  | succ m =>
    unfold watchbillref01_in.l0 at H
    refine Ok.seq ?_
    refine Ok.seq ?_
    refine Ok.region (σ' := ⟨[(0, (.v (.int .i64 a0))), (1, (L 1 (eI .i64) a1)), (5, (.v (.int .i64 x5_1))), (10, (.v (.bool (decide ((IntKind.i64.wrap (x5_1 + 1)) < (a1.length : Int))))))], []⟩) ?_ ?_
    · refine OpsOk.cons rfl (.v (VOk.mv (d := (.v (.int .i64 x5_1))) rfl rfl) rfl) ?_
      refine OpsOk.cons rfl (.v (VOk.arith (op := .add) (k := .i64) (a := x5_1) (b := 1) rfl rfl rfl rfl) rfl) ?_
      refine OpsOk.cons rfl (.v (VOk.mv (d := (L 1 (eI .i64) a1)) rfl rfl) rfl) ?_
      refine OpsOk.cons rfl (.v (VOk.lenL (e := (eI .i64)) (xs := a1) rfl Try.underlying50 rfl) rfl) ?_
      refine OpsOk.cons rfl (.v (VOk.arith (op := .lss) (k := .i64) (a := (IntKind.i64.wrap (x5_1 + 1))) (b := (a1.length : Int)) rfl rfl rfl rfl) rfl) ?_
      exact .done (.mk ⟨.same _, .same _, .same _, .same _, trivial⟩ trivial)
    refine Ok.test (b := (decide ((IntKind.i64.wrap (x5_1 + 1)) < (a1.length : Int)))) rfl (fun hb8 => ?_) (fun hb8 => ?_)
    · replace H := ifT H hb8
      refine Ok.le (σ' := ⟨[(0, (.v (.int .i64 a0))), (1, (L 1 (eI .i64) a1)), (5, (.v (.int .i64 x5_1)))], []⟩) (.mk ⟨.same _, .same _, .same _, trivial⟩ trivial) ?_
      refine Ok.skip ?_
      refine Ok.seq ?_
      refine Ok.block ?_
      refine Ok.seq ?_
      obtain ⟨c3, H⟩ := assertE H
      obtain ⟨c5, H⟩ := assertE H
      refine Ok.region (σ' := ⟨[(0, (.v (.int .i64 a0))), (1, (L 1 (eI .i64) a1)), (5, (.v (.int .i64 x5_1))), (27, (.v (.bool ((decide (a0 ≥ (rd a1 x5_1))) && (decide (a0 ≤ (rd a1 (IntKind.i64.wrap (x5_1 + 1)))))))))], []⟩) ?_ ?_
      · refine OpsOk.cons rfl (.v (VOk.mv (d := (.v (.int .i64 a0))) rfl rfl) rfl) ?_
        refine OpsOk.cons rfl (.v (VOk.mv (d := (L 1 (eI .i64) a1)) rfl rfl) rfl) ?_
        refine OpsOk.cons rfl (.v (VOk.mv (d := (.v (.int .i64 x5_1))) rfl rfl) rfl) ?_
        refine OpsOk.cons rfl (.v (VOk.indexL (sz := 1) (e := (eI .i64)) (xs := a1) (i := x5_1) rfl Try.underlying50 sz3 rfl rfl c3) rfl) ?_
        refine OpsOk.cons rfl (.v (VOk.loadFp (d := (.v (.int .i64 (rd a1 x5_1)))) rfl Try.underlying3 rfl rfl rfl) rfl) ?_
        refine OpsOk.cons rfl (.v (VOk.arith (op := .geq) (k := .i64) (a := a0) (b := (rd a1 x5_1)) rfl rfl rfl rfl) rfl) ?_
        refine OpsOk.cons rfl (.v (VOk.mv (d := (.v (.bool (decide (a0 ≥ (rd a1 x5_1)))))) rfl rfl) rfl) ?_
        refine OpsOk.consI rfl rfl rfl (.one rfl) rfl (fun hw4 => (VOk.g (VOk.mv (d := (.v (.int .i64 a0))) rfl rfl))) ?_
        refine OpsOk.consI rfl rfl rfl (.one rfl) rfl (fun hw4 => (VOk.g (VOk.mv (d := (L 1 (eI .i64) a1)) rfl rfl))) ?_
        refine OpsOk.consI rfl rfl rfl (.one rfl) rfl (fun hw4 => (VOk.g (VOk.mv (d := (.v (.int .i64 x5_1))) rfl rfl))) ?_
        refine OpsOk.consI rfl rfl rfl (.one rfl) rfl (fun hw4 => (GOk.fr (fr' := [(22, (.v (.int .i64 x5_1)))]) ⟨DLe.of_eq (cT hw4).symm, trivial⟩ (VOk.g (VOk.arith (op := .add) (k := .i64) (a := x5_1) (b := 1) rfl rfl rfl rfl)))) ?_
        refine OpsOk.consI rfl rfl rfl (.one rfl) rfl (fun hw4 => (GOk.fr (fr' := [(21, (L 1 (eI .i64) a1)), (23, (.v (.int .i64 (IntKind.i64.wrap (x5_1 + 1)))))]) ⟨DLe.of_eq (cT hw4).symm, DLe.of_eq (cT hw4).symm, trivial⟩ (VOk.g (VOk.indexL (sz := 1) (e := (eI .i64)) (xs := a1) (i := (IntKind.i64.wrap (x5_1 + 1))) rfl Try.underlying50 sz3 rfl rfl (c5 hw4))))) ?_
        refine OpsOk.consI rfl rfl rfl (.one rfl) rfl (fun hw4 => (GOk.fr (fr' := [(24, (.fp ((eI .i64) (rd a1 (IntKind.i64.wrap (x5_1 + 1)))) 0))]) ⟨DLe.of_eq (cT hw4).symm, trivial⟩ (VOk.g (VOk.loadFp (d := (.v (.int .i64 (rd a1 (IntKind.i64.wrap (x5_1 + 1)))))) rfl Try.underlying3 rfl rfl rfl)))) ?_
        refine OpsOk.consI rfl rfl rfl (.one rfl) rfl (fun hw4 => (GOk.fr (fr' := [(20, (.v (.int .i64 a0))), (25, (.v (.int .i64 (rd a1 (IntKind.i64.wrap (x5_1 + 1))))))]) ⟨DLe.of_eq (cT hw4).symm, DLe.of_eq (cT hw4).symm, trivial⟩ (VOk.g (VOk.arith (op := .leq) (k := .i64) (a := a0) (b := (rd a1 (IntKind.i64.wrap (x5_1 + 1)))) rfl rfl rfl rfl)))) ?_
        refine OpsOk.cons rfl (.v (VOk.to (VOk.pickI (b := (decide (a0 ≥ (rd a1 x5_1)))) (p := (decide (a0 ≤ (rd a1 (IntKind.i64.wrap (x5_1 + 1)))))) (q := false) rfl rfl (fun hp6 => (cT (t_beq hp6))) (fun hp6 => rfl)) (pickAnd (decide (a0 ≥ (rd a1 x5_1))) (decide (a0 ≤ (rd a1 (IntKind.i64.wrap (x5_1 + 1))))))) rfl) ?_
        exact .done (.mk ⟨.same _, .same _, .same _, .same _, trivial⟩ trivial)
      refine Ok.test (b := ((decide (a0 ≥ (rd a1 x5_1))) && (decide (a0 ≤ (rd a1 (IntKind.i64.wrap (x5_1 + 1))))))) rfl (fun hb7 => ?_) (fun hb7 => ?_)
      · replace H := ifT H hb7
        refine Ok.seq ?_
        refine Ok.region (σ' := ⟨[(4, (.v (.bool true)))], []⟩) ?_ ?_
        · refine OpsOk.cons rfl (.v (VOk.asg (d := (.v (.bool true))) rfl rfl) rfl) ?_
          exact .done (.mk ⟨.same _, trivial⟩ trivial)
        refine Ok.le (σ' := ⟨[(4, (.v (.bool true)))], []⟩) (.mk ⟨.same _, trivial⟩ trivial) ?_
        refine Ok.ret ?_
        obtain rfl := Option.some.inj H
        exact ⟨.inl rfl, rfl, rfl⟩
      · replace H := ifF H hb7
        refine Ok.le (σ' := ⟨[(0, (.v (.int .i64 a0))), (1, (L 1 (eI .i64) a1)), (5, (.v (.int .i64 x5_1)))], []⟩) (.mk ⟨.same _, .same _, .same _, trivial⟩ trivial) ?_
        refine Ok.skip ?_
        refine Ok.region (σ' := ⟨[(0, (.v (.int .i64 a0))), (1, (L 1 (eI .i64) a1)), (5, (.v (.int .i64 (IntKind.i64.wrap (x5_1 + 2)))))], []⟩) ?_ ?_
        · refine OpsOk.cons rfl (.v (VOk.mv (d := (.v (.int .i64 x5_1))) rfl rfl) rfl) ?_
          refine OpsOk.cons rfl (.v (VOk.arith (op := .add) (k := .i64) (a := x5_1) (b := 2) rfl rfl rfl rfl) rfl) ?_
          refine OpsOk.cons rfl (.v (VOk.asg (d := (.v (.int .i64 (IntKind.i64.wrap (x5_1 + 2))))) rfl rfl) rfl) ?_
          exact .done (.mk ⟨.same _, .same _, .same _, trivial⟩ trivial)
        exact ⟨m, Nat.lt_succ_self m, (IntKind.i64.wrap (x5_1 + 2)), rfl, H⟩
    · replace H := ifF H hb8
      refine Ok.le (σ' := ⟨[], []⟩) (.mk trivial trivial) ?_
      refine Ok.exit ?_
      refine Ok.seq ?_
      refine Ok.region (σ' := ⟨[(4, (.v (.bool false)))], []⟩) ?_ ?_
      · refine OpsOk.cons rfl (.v (VOk.asg (d := (.v (.bool false))) rfl rfl) rfl) ?_
        exact .done (.mk ⟨.same _, trivial⟩ trivial)
      refine Ok.le (σ' := ⟨[(4, (.v (.bool false)))], []⟩) (.mk ⟨.same _, trivial⟩ trivial) ?_
      refine Ok.ret ?_
      obtain rfl := Option.some.inj H
      exact ⟨.inl rfl, rfl, rfl⟩

/-! watchbill/watchbillref01.Char: function 16 -/
def watchbillref01_Char (k : Nat) (a0 : Int) : Option Bool := (((if ((((a0 == 9) || (a0 == 10)) || (a0 == 13)) == false) = true then watchbillref01_in k a0 ([32, 55295, 57344, 65533, 65536, 1114111] : List Int) else some default)).bind fun (t6 : Bool) => some ((((a0 == 9) || (a0 == 10)) || (a0 == 13)) || t6))
theorem watchbillref01_Char.ok {k : Nat} {a0 : Int} {r : Bool} (H : watchbillref01_Char k a0 = some r) : Vx.Fn Try.prog 16 [(.v (.int .i64 a0))] [] (.v (.bool r)) [] := by
  unfold watchbillref01_Char at H
  refine Vx.Fn.of_ok Try.func16 rfl (Nat.le_of_ble_eq_true rfl) ?_
  refine Ok.seq ?_
  refine Ok.region (σ' := ⟨[(0, (.v (.int .i64 a0)))], []⟩) ?_ ?_
  · refine OpsOk.cons rfl (.v (VOk.asg (d := (.v (.bool false))) rfl rfl) rfl) ?_
    exact .done (.mk ⟨.same _, trivial⟩ trivial)
  refine Ok.seq ?_
  obtain ⟨t6, h7, H⟩ := bindE H
  refine Ok.region (σ' := ⟨[(2, (.v (.bool ((((a0 == 9) || (a0 == 10)) || (a0 == 13)) || t6))))], []⟩) ?_ ?_
  · refine OpsOk.cons rfl (.v (VOk.mv (d := (.v (.int .i64 a0))) rfl rfl) rfl) ?_
    refine OpsOk.cons rfl (.v (VOk.arith (op := .eql) (k := .i64) (a := a0) (b := 9) rfl rfl rfl rfl) rfl) ?_
    refine OpsOk.cons rfl (.v (VOk.mv (d := (.v (.bool (a0 == 9)))) rfl rfl) rfl) ?_
    refine OpsOk.consI rfl rfl rfl (.one rfl) rfl (fun hw1 => (VOk.g (VOk.mv (d := (.v (.int .i64 a0))) rfl rfl))) ?_
    refine OpsOk.consI rfl rfl rfl (.one rfl) rfl (fun hw1 => (GOk.fr (fr' := [(6, (.v (.int .i64 a0)))]) ⟨DLe.of_eq (cT hw1).symm, trivial⟩ (VOk.g (VOk.arith (op := .eql) (k := .i64) (a := a0) (b := 10) rfl rfl rfl rfl)))) ?_
    refine OpsOk.cons rfl (.v (VOk.to (VOk.pickI (b := (a0 == 9)) (p := true) (q := (a0 == 10)) rfl rfl (fun hp2 => rfl) (fun hp2 => (cT (f_beq hp2)))) (pickOr (a0 == 9) (a0 == 10))) rfl) ?_
    refine OpsOk.cons rfl (.v (VOk.mv (d := (.v (.bool ((a0 == 9) || (a0 == 10))))) rfl rfl) rfl) ?_
    refine OpsOk.consI rfl rfl rfl (.one rfl) rfl (fun hw3 => (VOk.g (VOk.mv (d := (.v (.int .i64 a0))) rfl rfl))) ?_
    refine OpsOk.consI rfl rfl rfl (.one rfl) rfl (fun hw3 => (GOk.fr (fr' := [(10, (.v (.int .i64 a0)))]) ⟨DLe.of_eq (cT hw3).symm, trivial⟩ (VOk.g (VOk.arith (op := .eql) (k := .i64) (a := a0) (b := 13) rfl rfl rfl rfl)))) ?_
    refine OpsOk.cons rfl (.v (VOk.to (VOk.pickI (b := ((a0 == 9) || (a0 == 10))) (p := true) (q := (a0 == 13)) rfl rfl (fun hp4 => rfl) (fun hp4 => (cT (f_beq hp4)))) (pickOr ((a0 == 9) || (a0 == 10)) (a0 == 13))) rfl) ?_
    refine OpsOk.cons rfl (.v (VOk.mv (d := (.v (.bool (((a0 == 9) || (a0 == 10)) || (a0 == 13))))) rfl rfl) rfl) ?_
    refine OpsOk.consI rfl rfl rfl (.one rfl) rfl (fun hw5 => (VOk.g (VOk.mv (d := (.v (.int .i64 a0))) rfl rfl))) ?_
    refine OpsOk.consI rfl rfl rfl (.one rfl) rfl (fun hw5 => (GOk.to (d' := (L 1 (eI .i64) ([32, 55295, 57344, 65533, 65536, 1114111] : List Int))) (GOk.lit rfl Try.underlying50 sz3 zs3 rfl rfl rfl rfl) rfl)) ?_
    refine OpsOk.consI rfl rfl rfl (.one rfl) rfl (fun hw5 => (GOk.fr (fr' := [(14, (.v (.int .i64 a0))), (15, (L 1 (eI .i64) ([32, 55295, 57344, 65533, 65536, 1114111] : List Int)))]) ⟨DLe.of_eq (cT hw5).symm, DLe.of_eq (cT hw5).symm, trivial⟩ (GOk.call rfl rfl cl35 rfl (watchbillref01_in.ok (ifT h7 hw5)) rfl))) ?_
    refine OpsOk.cons rfl (.v (VOk.to (VOk.pickI (b := (((a0 == 9) || (a0 == 10)) || (a0 == 13))) (p := true) (q := t6) rfl rfl (fun hp8 => rfl) (fun hp8 => (cT (f_beq hp8)))) (pickOr (((a0 == 9) || (a0 == 10)) || (a0 == 13)) t6)) rfl) ?_
    refine OpsOk.cons rfl (.v (VOk.asg (d := (.v (.bool ((((a0 == 9) || (a0 == 10)) || (a0 == 13)) || t6)))) rfl rfl) rfl) ?_
    exact .done (.mk ⟨.same _, trivial⟩ trivial)
  refine Ok.le (σ' := ⟨[(2, (.v (.bool ((((a0 == 9) || (a0 == 10)) || (a0 == 13)) || t6))))], []⟩) (.mk ⟨.same _, trivial⟩ trivial) ?_
  refine Ok.ret ?_
  obtain rfl := Option.some.inj H
  exact ⟨.inl rfl, rfl, rfl⟩

/-! watchbill/watchbillref01.Start: function 18 -/
def watchbillref01_Start (k : Nat) (a0 : Int) : Option Bool := ((watchbillref01_in k a0 ([65, 90, 97, 122, 95, 95, 192, 214, 216, 246, 248, 767, 880, 893, 895, 8191, 8204, 8205, 8304, 8591, 11264, 12271, 12289, 55295, 63744, 64975, 65008, 65533, 65536, 983039] : List Int)).bind fun (t1 : Bool) => some t1)
theorem watchbillref01_Start.ok {k : Nat} {a0 : Int} {r : Bool} (H : watchbillref01_Start k a0 = some r) : Vx.Fn Try.prog 18 [(.v (.int .i64 a0))] [] (.v (.bool r)) [] := by
  unfold watchbillref01_Start at H
  refine Vx.Fn.of_ok Try.func18 rfl (Nat.le_of_ble_eq_true rfl) ?_
  refine Ok.seq ?_
  refine Ok.region (σ' := ⟨[(0, (.v (.int .i64 a0)))], []⟩) ?_ ?_
  · refine OpsOk.cons rfl (.v (VOk.asg (d := (.v (.bool false))) rfl rfl) rfl) ?_
    exact .done (.mk ⟨.same _, trivial⟩ trivial)
  refine Ok.seq ?_
  obtain ⟨t1, h2, H⟩ := bindE H
  refine Ok.region (σ' := ⟨[(2, (.v (.bool t1)))], []⟩) ?_ ?_
  · refine OpsOk.cons rfl (.v (VOk.mv (d := (.v (.int .i64 a0))) rfl rfl) rfl) ?_
    refine OpsOk.cons rfl (.g (GOk.to (d' := (L 1 (eI .i64) ([65, 90, 97, 122, 95, 95, 192, 214, 216, 246, 248, 767, 880, 893, 895, 8191, 8204, 8205, 8304, 8591, 11264, 12271, 12289, 55295, 63744, 64975, 65008, 65533, 65536, 983039] : List Int))) (GOk.lit rfl Try.underlying50 sz3 zs3 rfl rfl rfl rfl) rfl) rfl) ?_
    refine OpsOk.cons rfl (.g (GOk.call rfl rfl cl35 rfl (watchbillref01_in.ok h2) rfl) rfl) ?_
    refine OpsOk.cons rfl (.v (VOk.asg (d := (.v (.bool t1))) rfl rfl) rfl) ?_
    exact .done (.mk ⟨.same _, trivial⟩ trivial)
  refine Ok.le (σ' := ⟨[(2, (.v (.bool t1)))], []⟩) (.mk ⟨.same _, trivial⟩ trivial) ?_
  refine Ok.ret ?_
  obtain rfl := Option.some.inj H
  exact ⟨.inl rfl, rfl, rfl⟩

/-! watchbill/watchbillref01.Part: function 20 -/
def watchbillref01_Part (k : Nat) (a0 : Int) : Option Bool := ((watchbillref01_Start k a0).bind fun (t1 : Bool) => (((if (((t1 || (a0 == 45)) || (a0 == 46)) == false) = true then watchbillref01_in k a0 ([48, 57, 183, 183, 768, 879, 8255, 8256] : List Int) else some default)).bind fun (t8 : Bool) => some (((t1 || (a0 == 45)) || (a0 == 46)) || t8)))
theorem watchbillref01_Part.ok {k : Nat} {a0 : Int} {r : Bool} (H : watchbillref01_Part k a0 = some r) : Vx.Fn Try.prog 20 [(.v (.int .i64 a0))] [] (.v (.bool r)) [] := by
  unfold watchbillref01_Part at H
  refine Vx.Fn.of_ok Try.func20 rfl (Nat.le_of_ble_eq_true rfl) ?_
  refine Ok.seq ?_
  refine Ok.region (σ' := ⟨[(0, (.v (.int .i64 a0)))], []⟩) ?_ ?_
  · refine OpsOk.cons rfl (.v (VOk.asg (d := (.v (.bool false))) rfl rfl) rfl) ?_
    exact .done (.mk ⟨.same _, trivial⟩ trivial)
  refine Ok.seq ?_
  obtain ⟨t1, h2, H⟩ := bindE H
  obtain ⟨t8, h9, H⟩ := bindE H
  refine Ok.region (σ' := ⟨[(2, (.v (.bool (((t1 || (a0 == 45)) || (a0 == 46)) || t8))))], []⟩) ?_ ?_
  · refine OpsOk.cons rfl (.v (VOk.mv (d := (.v (.int .i64 a0))) rfl rfl) rfl) ?_
    refine OpsOk.cons rfl (.g (GOk.call rfl rfl cl18 rfl (watchbillref01_Start.ok h2) rfl) rfl) ?_
    refine OpsOk.cons rfl (.v (VOk.mv (d := (.v (.bool t1))) rfl rfl) rfl) ?_
    refine OpsOk.consI rfl rfl rfl (.one rfl) rfl (fun hw3 => (VOk.g (VOk.mv (d := (.v (.int .i64 a0))) rfl rfl))) ?_
    refine OpsOk.consI rfl rfl rfl (.one rfl) rfl (fun hw3 => (GOk.fr (fr' := [(6, (.v (.int .i64 a0)))]) ⟨DLe.of_eq (cT hw3).symm, trivial⟩ (VOk.g (VOk.arith (op := .eql) (k := .i64) (a := a0) (b := 45) rfl rfl rfl rfl)))) ?_
    refine OpsOk.cons rfl (.v (VOk.to (VOk.pickI (b := t1) (p := true) (q := (a0 == 45)) rfl rfl (fun hp4 => rfl) (fun hp4 => (cT (f_beq hp4)))) (pickOr t1 (a0 == 45))) rfl) ?_
    refine OpsOk.cons rfl (.v (VOk.mv (d := (.v (.bool (t1 || (a0 == 45))))) rfl rfl) rfl) ?_
    refine OpsOk.consI rfl rfl rfl (.one rfl) rfl (fun hw5 => (VOk.g (VOk.mv (d := (.v (.int .i64 a0))) rfl rfl))) ?_
    refine OpsOk.consI rfl rfl rfl (.one rfl) rfl (fun hw5 => (GOk.fr (fr' := [(10, (.v (.int .i64 a0)))]) ⟨DLe.of_eq (cT hw5).symm, trivial⟩ (VOk.g (VOk.arith (op := .eql) (k := .i64) (a := a0) (b := 46) rfl rfl rfl rfl)))) ?_
    refine OpsOk.cons rfl (.v (VOk.to (VOk.pickI (b := (t1 || (a0 == 45))) (p := true) (q := (a0 == 46)) rfl rfl (fun hp6 => rfl) (fun hp6 => (cT (f_beq hp6)))) (pickOr (t1 || (a0 == 45)) (a0 == 46))) rfl) ?_
    refine OpsOk.cons rfl (.v (VOk.mv (d := (.v (.bool ((t1 || (a0 == 45)) || (a0 == 46))))) rfl rfl) rfl) ?_
    refine OpsOk.consI rfl rfl rfl (.one rfl) rfl (fun hw7 => (VOk.g (VOk.mv (d := (.v (.int .i64 a0))) rfl rfl))) ?_
    refine OpsOk.consI rfl rfl rfl (.one rfl) rfl (fun hw7 => (GOk.to (d' := (L 1 (eI .i64) ([48, 57, 183, 183, 768, 879, 8255, 8256] : List Int))) (GOk.lit rfl Try.underlying50 sz3 zs3 rfl rfl rfl rfl) rfl)) ?_
    refine OpsOk.consI rfl rfl rfl (.one rfl) rfl (fun hw7 => (GOk.fr (fr' := [(14, (.v (.int .i64 a0))), (15, (L 1 (eI .i64) ([48, 57, 183, 183, 768, 879, 8255, 8256] : List Int)))]) ⟨DLe.of_eq (cT hw7).symm, DLe.of_eq (cT hw7).symm, trivial⟩ (GOk.call rfl rfl cl35 rfl (watchbillref01_in.ok (ifT h9 hw7)) rfl))) ?_
    refine OpsOk.cons rfl (.v (VOk.to (VOk.pickI (b := ((t1 || (a0 == 45)) || (a0 == 46))) (p := true) (q := t8) rfl rfl (fun hp10 => rfl) (fun hp10 => (cT (f_beq hp10)))) (pickOr ((t1 || (a0 == 45)) || (a0 == 46)) t8)) rfl) ?_
    refine OpsOk.cons rfl (.v (VOk.asg (d := (.v (.bool (((t1 || (a0 == 45)) || (a0 == 46)) || t8)))) rfl rfl) rfl) ?_
    exact .done (.mk ⟨.same _, trivial⟩ trivial)
  refine Ok.le (σ' := ⟨[(2, (.v (.bool (((t1 || (a0 == 45)) || (a0 == 46)) || t8))))], []⟩) (.mk ⟨.same _, trivial⟩ trivial) ?_
  refine Ok.ret ?_
  obtain rfl := Option.some.inj H
  exact ⟨.inl rfl, rfl, rfl⟩

/-! watchbill/watchbillref01.Blank: function 22 -/
def watchbillref01_Blank (a0 : Int) : Option Bool := some ((((a0 == 9) || (a0 == 10)) || (a0 == 13)) || (a0 == 32))
theorem watchbillref01_Blank.ok {a0 : Int} {r : Bool} (H : watchbillref01_Blank a0 = some r) : Vx.Fn Try.prog 22 [(.v (.int .u8 a0))] [] (.v (.bool r)) [] := by
  unfold watchbillref01_Blank at H
  refine Vx.Fn.of_ok Try.func22 rfl (Nat.le_of_ble_eq_true rfl) ?_
  refine Ok.seq ?_
  refine Ok.region (σ' := ⟨[(0, (.v (.int .u8 a0)))], []⟩) ?_ ?_
  · refine OpsOk.cons rfl (.v (VOk.asg (d := (.v (.bool false))) rfl rfl) rfl) ?_
    exact .done (.mk ⟨.same _, trivial⟩ trivial)
  refine Ok.seq ?_
  refine Ok.region (σ' := ⟨[(2, (.v (.bool ((((a0 == 9) || (a0 == 10)) || (a0 == 13)) || (a0 == 32)))))], []⟩) ?_ ?_
  · refine OpsOk.cons rfl (.v (VOk.mv (d := (.v (.int .u8 a0))) rfl rfl) rfl) ?_
    refine OpsOk.cons rfl (.v (VOk.arith (op := .eql) (k := .u8) (a := a0) (b := 9) rfl rfl rfl rfl) rfl) ?_
    refine OpsOk.cons rfl (.v (VOk.mv (d := (.v (.bool (a0 == 9)))) rfl rfl) rfl) ?_
    refine OpsOk.consI rfl rfl rfl (.one rfl) rfl (fun hw1 => (VOk.g (VOk.mv (d := (.v (.int .u8 a0))) rfl rfl))) ?_
    refine OpsOk.consI rfl rfl rfl (.one rfl) rfl (fun hw1 => (GOk.fr (fr' := [(6, (.v (.int .u8 a0)))]) ⟨DLe.of_eq (cT hw1).symm, trivial⟩ (VOk.g (VOk.arith (op := .eql) (k := .u8) (a := a0) (b := 10) rfl rfl rfl rfl)))) ?_
    refine OpsOk.cons rfl (.v (VOk.to (VOk.pickI (b := (a0 == 9)) (p := true) (q := (a0 == 10)) rfl rfl (fun hp2 => rfl) (fun hp2 => (cT (f_beq hp2)))) (pickOr (a0 == 9) (a0 == 10))) rfl) ?_
    refine OpsOk.cons rfl (.v (VOk.mv (d := (.v (.bool ((a0 == 9) || (a0 == 10))))) rfl rfl) rfl) ?_
    refine OpsOk.consI rfl rfl rfl (.one rfl) rfl (fun hw3 => (VOk.g (VOk.mv (d := (.v (.int .u8 a0))) rfl rfl))) ?_
    refine OpsOk.consI rfl rfl rfl (.one rfl) rfl (fun hw3 => (GOk.fr (fr' := [(10, (.v (.int .u8 a0)))]) ⟨DLe.of_eq (cT hw3).symm, trivial⟩ (VOk.g (VOk.arith (op := .eql) (k := .u8) (a := a0) (b := 13) rfl rfl rfl rfl)))) ?_
    refine OpsOk.cons rfl (.v (VOk.to (VOk.pickI (b := ((a0 == 9) || (a0 == 10))) (p := true) (q := (a0 == 13)) rfl rfl (fun hp4 => rfl) (fun hp4 => (cT (f_beq hp4)))) (pickOr ((a0 == 9) || (a0 == 10)) (a0 == 13))) rfl) ?_
    refine OpsOk.cons rfl (.v (VOk.mv (d := (.v (.bool (((a0 == 9) || (a0 == 10)) || (a0 == 13))))) rfl rfl) rfl) ?_
    refine OpsOk.consI rfl rfl rfl (.one rfl) rfl (fun hw5 => (VOk.g (VOk.mv (d := (.v (.int .u8 a0))) rfl rfl))) ?_
    refine OpsOk.consI rfl rfl rfl (.one rfl) rfl (fun hw5 => (GOk.fr (fr' := [(14, (.v (.int .u8 a0)))]) ⟨DLe.of_eq (cT hw5).symm, trivial⟩ (VOk.g (VOk.arith (op := .eql) (k := .u8) (a := a0) (b := 32) rfl rfl rfl rfl)))) ?_
    refine OpsOk.cons rfl (.v (VOk.to (VOk.pickI (b := (((a0 == 9) || (a0 == 10)) || (a0 == 13))) (p := true) (q := (a0 == 32)) rfl rfl (fun hp6 => rfl) (fun hp6 => (cT (f_beq hp6)))) (pickOr (((a0 == 9) || (a0 == 10)) || (a0 == 13)) (a0 == 32))) rfl) ?_
    refine OpsOk.cons rfl (.v (VOk.asg (d := (.v (.bool ((((a0 == 9) || (a0 == 10)) || (a0 == 13)) || (a0 == 32))))) rfl rfl) rfl) ?_
    exact .done (.mk ⟨.same _, trivial⟩ trivial)
  refine Ok.le (σ' := ⟨[(2, (.v (.bool ((((a0 == 9) || (a0 == 10)) || (a0 == 13)) || (a0 == 32)))))], []⟩) (.mk ⟨.same _, trivial⟩ trivial) ?_
  refine Ok.ret ?_
  obtain rfl := Option.some.inj H
  exact ⟨.inl rfl, rfl, rfl⟩

end Go.Proofs.Ytnabecgfaecbmaa.Sh
