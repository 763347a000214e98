import Derived.Test.YtnabecgfaecbmaaProg
import Derived.Test.YtnabecgfaecbmaaSha
namespace Go.Proofs.Ytnabecgfaecbmaa.Sh
open Go Go.RowKit Go.Proofs.Vx
set_option linter.unusedVariables false

set_option maxRecDepth 100000
set_option maxHeartbeats 1000000
/-! watchbill/watchbilllaw01.UtfKinds: function 6 -/
def watchbilllaw01_UtfKinds (k : Nat) (a0 : Int) (a1 : Int) : Option Bool := ((watchbilllaw01_awake k).bind fun (t1 : Bool) => (if (!t1) = true then some false else ((utf_Char k a0).bind fun (t3 : Bool) => ((watchbillref01_Char k (IntKind.i64.wrap a0)).bind fun (t5 : Bool) => (((if ((!(t3 == t5)) == false) = true then utf_Start k a0 else some default)).bind fun (t8 : Bool) => (((if ((!(t3 == t5)) == false) = true then watchbillref01_Start k (IntKind.i64.wrap a0) else some default)).bind fun (t10 : Bool) => (((if (((!(t3 == t5)) || (!(t8 == t10))) == false) = true then utf_Part k a0 else some default)).bind fun (t14 : Bool) => (((if (((!(t3 == t5)) || (!(t8 == t10))) == false) = true then watchbillref01_Part k (IntKind.i64.wrap a0) else some default)).bind fun (t16 : Bool) => (((if ((((!(t3 == t5)) || (!(t8 == t10))) || (!(t14 == t16))) == false) = true then utf_Blank a1 else some default)).bind fun (t20 : Bool) => (((if ((((!(t3 == t5)) || (!(t8 == t10))) || (!(t14 == t16))) == false) = true then watchbillref01_Blank a1 else some default)).bind fun (t22 : Bool) => (if ((((!(t3 == t5)) || (!(t8 == t10))) || (!(t14 == t16))) || (!(t20 == t22))) = true then some false else ((utf_Start k a0).bind fun (t25 : Bool) => (((if ((!t25) == false) = true then utf_Part k a0 else some default)).bind fun (t28 : Bool) => (((if (((!t25) || t28) == true) = true then utf_Part k a0 else some default)).bind fun (t32 : Bool) => (((if ((((!t25) || t28) == true) && ((!t32) == false)) = true then utf_Char k a0 else some default)).bind fun (t35 : Bool) => (((if ((((!t25) || t28) && ((!t32) || t35)) == true) = true then utf_Char k a0 else some default)).bind fun (t40 : Bool) => (((if (((((!t25) || t28) && ((!t32) || t35)) == true) && ((!t40) == false)) = true then utf_Put a0 else some default)).bind fun (t43 : Str) => some ((((!t25) || t28) && ((!t32) || t35)) && ((!t40) || (!(t43 == ([] : Str))))))))))))))))))))))
theorem watchbilllaw01_UtfKinds.ok {k : Nat} {a0 : Int} {a1 : Int} {r : Bool} (H : watchbilllaw01_UtfKinds k a0 a1 = some r) : Vx.Fn Try.prog 6 [(.v (.int .i32 a0)), (.v (.int .u8 a1))] [] (.v (.bool r)) [] := by
  unfold watchbilllaw01_UtfKinds at H
  refine Vx.Fn.of_ok Try.func6 rfl (Nat.le_of_ble_eq_true rfl) ?_
  refine Ok.seq ?_
  refine Ok.region (σ' := ⟨[(0, (.v (.int .i32 a0))), (1, (.v (.int .u8 a1)))], []⟩) ?_ ?_
  · refine OpsOk.cons rfl (.v (VOk.asg (d := (.v (.bool false))) rfl rfl) rfl) ?_
    exact .done (.mk ⟨.same _, .same _, trivial⟩ trivial)
  refine Ok.seq ?_
  refine Ok.seq ?_
  obtain ⟨t1, h2, H⟩ := bindE H
  refine Ok.region (σ' := ⟨[(0, (.v (.int .i32 a0))), (1, (.v (.int .u8 a1))), (7, (.v (.bool (!t1))))], []⟩) ?_ ?_
  · refine OpsOk.cons rfl (.g (GOk.call rfl rfl cl9 rfl (watchbilllaw01_awake.ok h2) rfl) rfl) ?_
    refine OpsOk.cons rfl (.v (VOk.not (b := t1) rfl rfl) rfl) ?_
    exact .done (.mk ⟨.same _, .same _, .same _, trivial⟩ trivial)
  refine Ok.test (b := (!t1)) rfl (fun hb48 => ?_) (fun hb48 => ?_)
  · replace H := ifT H hb48
    refine Ok.seq ?_
    refine Ok.region (σ' := ⟨[(4, (.v (.bool false)))], []⟩) ?_ ?_
    · refine OpsOk.cons rfl (.v (VOk.asg (d := (.v (.bool false))) rfl rfl) rfl) ?_
      exact .done (.mk ⟨.same _, trivial⟩ trivial)
    refine Ok.le (σ' := ⟨[(4, (.v (.bool false)))], []⟩) (.mk ⟨.same _, trivial⟩ trivial) ?_
    refine Ok.ret ?_
    obtain rfl := Option.some.inj H
    exact ⟨.inl rfl, rfl, rfl⟩
  · replace H := ifF H hb48
    refine Ok.le (σ' := ⟨[(0, (.v (.int .i32 a0))), (1, (.v (.int .u8 a1)))], []⟩) (.mk ⟨.same _, .same _, trivial⟩ trivial) ?_
    refine Ok.skip ?_
    refine Ok.seq ?_
    refine Ok.region (σ' := ⟨[(0, (.v (.int .i32 a0))), (1, (.v (.int .u8 a1))), (5, (.v (.int .i64 (IntKind.i64.wrap a0))))], []⟩) ?_ ?_
    · refine OpsOk.cons rfl (.v (VOk.mv (d := (.v (.int .i32 a0))) rfl rfl) rfl) ?_
      refine OpsOk.cons rfl (.v (VOk.convInt (a := a0) rfl (by rw [Try.underlying21]; rfl) Try.underlying3 rfl) rfl) ?_
      refine OpsOk.cons rfl (.v (VOk.asg (d := (.v (.int .i64 (IntKind.i64.wrap a0)))) rfl rfl) rfl) ?_
      exact .done (.mk ⟨.same _, .same _, .same _, trivial⟩ trivial)
    refine Ok.seq ?_
    refine Ok.seq ?_
    obtain ⟨t3, h4, H⟩ := bindE H
    obtain ⟨t5, h6, H⟩ := bindE H
    obtain ⟨t8, h9, H⟩ := bindE H
    obtain ⟨t10, h11, H⟩ := bindE H
    obtain ⟨t14, h15, H⟩ := bindE H
    obtain ⟨t16, h17, H⟩ := bindE H
    obtain ⟨t20, h21, H⟩ := bindE H
    obtain ⟨t22, h23, H⟩ := bindE H
    refine Ok.region (σ' := ⟨[(0, (.v (.int .i32 a0))), (35, (.v (.bool ((((!(t3 == t5)) || (!(t8 == t10))) || (!(t14 == t16))) || (!(t20 == t22))))))], []⟩) ?_ ?_
    · refine OpsOk.cons rfl (.v (VOk.mv (d := (.v (.int .i32 a0))) rfl rfl) rfl) ?_
      refine OpsOk.cons rfl (.g (GOk.call rfl rfl cl15 rfl (utf_Char.ok h4) rfl) rfl) ?_
      refine OpsOk.cons rfl (.v (VOk.mv (d := (.v (.int .i64 (IntKind.i64.wrap a0)))) rfl rfl) rfl) ?_
      refine OpsOk.cons rfl (.g (GOk.call rfl rfl cl16 rfl (watchbillref01_Char.ok h6) rfl) rfl) ?_
      refine OpsOk.cons rfl (.v (VOk.eqB (op := .neq) (p := t3) (q := t5) rfl (.inr rfl) Try.underlying4 rfl rfl) rfl) ?_
      refine OpsOk.cons rfl (.v (VOk.mv (d := (.v (.bool (!(t3 == t5))))) rfl rfl) rfl) ?_
      refine OpsOk.consI rfl rfl rfl (.one rfl) rfl (fun hw7 => (VOk.g (VOk.mv (d := (.v (.int .i32 a0))) rfl rfl))) ?_
      refine OpsOk.consI rfl rfl rfl (.one rfl) rfl (fun hw7 => (GOk.fr (fr' := [(16, (.v (.int .i32 a0)))]) ⟨DLe.of_eq (cT hw7).symm, trivial⟩ (GOk.call rfl rfl cl17 rfl (utf_Start.ok (ifT h9 hw7)) rfl))) ?_
      refine OpsOk.consI rfl rfl rfl (.one rfl) rfl (fun hw7 => (VOk.g (VOk.mv (d := (.v (.int .i64 (IntKind.i64.wrap a0)))) rfl rfl))) ?_
      refine OpsOk.consI rfl rfl rfl (.one rfl) rfl (fun hw7 => (GOk.fr (fr' := [(18, (.v (.int .i64 (IntKind.i64.wrap a0))))]) ⟨DLe.of_eq (cT hw7).symm, trivial⟩ (GOk.call rfl rfl cl18 rfl (watchbillref01_Start.ok (ifT h11 hw7)) rfl))) ?_
      refine OpsOk.consI rfl rfl rfl (.one rfl) rfl (fun hw7 => (GOk.fr (fr' := [(17, (.v (.bool t8))), (19, (.v (.bool t10)))]) ⟨DLe.of_eq (cT hw7).symm, DLe.of_eq (cT hw7).symm, trivial⟩ (VOk.g (VOk.eqB (op := .neq) (p := t8) (q := t10) rfl (.inr rfl) Try.underlying4 rfl rfl)))) ?_
      refine OpsOk.cons rfl (.v (VOk.to (VOk.pickI (b := (!(t3 == t5))) (p := true) (q := (!(t8 == t10))) rfl rfl (fun hp12 => rfl) (fun hp12 => (cT (f_beq hp12)))) (pickOr (!(t3 == t5)) (!(t8 == t10)))) rfl) ?_
      refine OpsOk.cons rfl (.v (VOk.mv (d := (.v (.bool ((!(t3 == t5)) || (!(t8 == t10)))))) rfl rfl) rfl) ?_
      refine OpsOk.consI rfl rfl rfl (.one rfl) rfl (fun hw13 => (VOk.g (VOk.mv (d := (.v (.int .i32 a0))) rfl rfl))) ?_
      refine OpsOk.consI rfl rfl rfl (.one rfl) rfl (fun hw13 => (GOk.fr (fr' := [(23, (.v (.int .i32 a0)))]) ⟨DLe.of_eq (cT hw13).symm, trivial⟩ (GOk.call rfl rfl cl19 rfl (utf_Part.ok (ifT h15 hw13)) rfl))) ?_
      refine OpsOk.consI rfl rfl rfl (.one rfl) rfl (fun hw13 => (VOk.g (VOk.mv (d := (.v (.int .i64 (IntKind.i64.wrap a0)))) rfl rfl))) ?_
      refine OpsOk.consI rfl rfl rfl (.one rfl) rfl (fun hw13 => (GOk.fr (fr' := [(25, (.v (.int .i64 (IntKind.i64.wrap a0))))]) ⟨DLe.of_eq (cT hw13).symm, trivial⟩ (GOk.call rfl rfl cl20 rfl (watchbillref01_Part.ok (ifT h17 hw13)) rfl))) ?_
      refine OpsOk.consI rfl rfl rfl (.one rfl) rfl (fun hw13 => (GOk.fr (fr' := [(24, (.v (.bool t14))), (26, (.v (.bool t16)))]) ⟨DLe.of_eq (cT hw13).symm, DLe.of_eq (cT hw13).symm, trivial⟩ (VOk.g (VOk.eqB (op := .neq) (p := t14) (q := t16) rfl (.inr rfl) Try.underlying4 rfl rfl)))) ?_
      refine OpsOk.cons rfl (.v (VOk.to (VOk.pickI (b := ((!(t3 == t5)) || (!(t8 == t10)))) (p := true) (q := (!(t14 == t16))) rfl rfl (fun hp18 => rfl) (fun hp18 => (cT (f_beq hp18)))) (pickOr ((!(t3 == t5)) || (!(t8 == t10))) (!(t14 == t16)))) rfl) ?_
      refine OpsOk.cons rfl (.v (VOk.mv (d := (.v (.bool (((!(t3 == t5)) || (!(t8 == t10))) || (!(t14 == t16)))))) rfl rfl) rfl) ?_
      refine OpsOk.consI rfl rfl rfl (.one rfl) rfl (fun hw19 => (VOk.g (VOk.mv (d := (.v (.int .u8 a1))) rfl rfl))) ?_
      refine OpsOk.consI rfl rfl rfl (.one rfl) rfl (fun hw19 => (GOk.fr (fr' := [(30, (.v (.int .u8 a1)))]) ⟨DLe.of_eq (cT hw19).symm, trivial⟩ (GOk.call rfl rfl cl21 rfl (utf_Blank.ok (ifT h21 hw19)) rfl))) ?_
      refine OpsOk.consI rfl rfl rfl (.one rfl) rfl (fun hw19 => (VOk.g (VOk.mv (d := (.v (.int .u8 a1))) rfl rfl))) ?_
      refine OpsOk.consI rfl rfl rfl (.one rfl) rfl (fun hw19 => (GOk.fr (fr' := [(32, (.v (.int .u8 a1)))]) ⟨DLe.of_eq (cT hw19).symm, trivial⟩ (GOk.call rfl rfl cl22 rfl (watchbillref01_Blank.ok (ifT h23 hw19)) rfl))) ?_
      refine OpsOk.consI rfl rfl rfl (.one rfl) rfl (fun hw19 => (GOk.fr (fr' := [(31, (.v (.bool t20))), (33, (.v (.bool t22)))]) ⟨DLe.of_eq (cT hw19).symm, DLe.of_eq (cT hw19).symm, trivial⟩ (VOk.g (VOk.eqB (op := .neq) (p := t20) (q := t22) rfl (.inr rfl) Try.underlying4 rfl rfl)))) ?_
      refine OpsOk.cons rfl (.v (VOk.to (VOk.pickI (b := (((!(t3 == t5)) || (!(t8 == t10))) || (!(t14 == t16)))) (p := true) (q := (!(t20 == t22))) rfl rfl (fun hp24 => rfl) (fun hp24 => (cT (f_beq hp24)))) (pickOr (((!(t3 == t5)) || (!(t8 == t10))) || (!(t14 == t16))) (!(t20 == t22)))) rfl) ?_
      exact .done (.mk ⟨.same _, .same _, trivial⟩ trivial)
    refine Ok.test (b := ((((!(t3 == t5)) || (!(t8 == t10))) || (!(t14 == t16))) || (!(t20 == t22)))) rfl (fun hb47 => ?_) (fun hb47 => ?_)
    · replace H := ifT H hb47
      refine Ok.seq ?_
      refine Ok.region (σ' := ⟨[(4, (.v (.bool false)))], []⟩) ?_ ?_
      · refine OpsOk.cons rfl (.v (VOk.asg (d := (.v (.bool false))) rfl rfl) rfl) ?_
        exact .done (.mk ⟨.same _, trivial⟩ trivial)
      refine Ok.le (σ' := ⟨[(4, (.v (.bool false)))], []⟩) (.mk ⟨.same _, trivial⟩ trivial) ?_
      refine Ok.ret ?_
      obtain rfl := Option.some.inj H
      exact ⟨.inl rfl, rfl, rfl⟩
    · replace H := ifF H hb47
      refine Ok.le (σ' := ⟨[(0, (.v (.int .i32 a0)))], []⟩) (.mk ⟨.same _, trivial⟩ trivial) ?_
      refine Ok.skip ?_
      refine Ok.seq ?_
      obtain ⟨t25, h26, H⟩ := bindE H
      obtain ⟨t28, h29, H⟩ := bindE H
      obtain ⟨t32, h33, H⟩ := bindE H
      obtain ⟨t35, h36, H⟩ := bindE H
      obtain ⟨t40, h41, H⟩ := bindE H
      obtain ⟨t43, h44, H⟩ := bindE H
      refine Ok.region (σ' := ⟨[(4, (.v (.bool ((((!t25) || t28) && ((!t32) || t35)) && ((!t40) || (!(t43 == ([] : Str))))))))], []⟩) ?_ ?_
      · refine OpsOk.cons rfl (.v (VOk.mv (d := (.v (.int .i32 a0))) rfl rfl) rfl) ?_
        refine OpsOk.cons rfl (.g (GOk.call rfl rfl cl17 rfl (utf_Start.ok h26) rfl) rfl) ?_
        refine OpsOk.cons rfl (.v (VOk.not (b := t25) rfl rfl) rfl) ?_
        refine OpsOk.cons rfl (.v (VOk.mv (d := (.v (.bool (!t25)))) rfl rfl) rfl) ?_
        refine OpsOk.consI rfl rfl rfl (.one rfl) rfl (fun hw27 => (VOk.g (VOk.mv (d := (.v (.int .i32 a0))) rfl rfl))) ?_
        refine OpsOk.consI rfl rfl rfl (.one rfl) rfl (fun hw27 => (GOk.fr (fr' := [(40, (.v (.int .i32 a0)))]) ⟨DLe.of_eq (cT hw27).symm, trivial⟩ (GOk.call rfl rfl cl19 rfl (utf_Part.ok (ifT h29 hw27)) rfl))) ?_
        refine OpsOk.cons rfl (.v (VOk.to (VOk.pickI (b := (!t25)) (p := true) (q := t28) rfl rfl (fun hp30 => rfl) (fun hp30 => (cT (f_beq hp30)))) (pickOr (!t25) t28)) rfl) ?_
        refine OpsOk.cons rfl (.v (VOk.mv (d := (.v (.bool ((!t25) || t28)))) rfl rfl) rfl) ?_
        refine OpsOk.consI rfl rfl rfl (.one rfl) rfl (fun hw31 => (VOk.g (VOk.mv (d := (.v (.int .i32 a0))) rfl rfl))) ?_
        refine OpsOk.consI rfl rfl rfl (.one rfl) rfl (fun hw31 => (GOk.fr (fr' := [(44, (.v (.int .i32 a0)))]) ⟨DLe.of_eq (cT hw31).symm, trivial⟩ (GOk.call rfl rfl cl19 rfl (utf_Part.ok (ifT h33 hw31)) rfl))) ?_
        refine OpsOk.consI rfl rfl rfl (.one rfl) rfl (fun hw31 => (GOk.fr (fr' := [(45, (.v (.bool t32)))]) ⟨DLe.of_eq (cT hw31).symm, trivial⟩ (VOk.g (VOk.not (b := t32) rfl rfl)))) ?_
        refine OpsOk.consI rfl rfl rfl (.one rfl) rfl (fun hw31 => (GOk.fr (fr' := [(46, (.v (.bool (!t32))))]) ⟨DLe.of_eq (cT hw31).symm, trivial⟩ (VOk.g (VOk.mv (d := (.v (.bool (!t32)))) rfl rfl)))) ?_
        refine OpsOk.consI rfl rfl rfl (.two rfl) rfl (fun hw34 => (VOk.g (VOk.mv (d := (.v (.int .i32 a0))) rfl rfl))) ?_
        refine OpsOk.consI rfl rfl rfl (.two rfl) rfl (fun hw34 => (GOk.fr (fr' := [(48, (.v (.int .i32 a0)))]) ⟨DLe.of_eq (cT hw34).symm, trivial⟩ (GOk.call rfl rfl cl15 rfl (utf_Char.ok (ifT h36 hw34)) rfl))) ?_
        refine OpsOk.consI rfl rfl rfl (.one rfl) rfl (fun hw31 => (VOk.g (VOk.to (VOk.pickI (b := (!t32)) (p := true) (q := t35) rfl (cT hw31) (fun hp37 => rfl) (fun hp37 => (cT (and_i hw31 (f_beq hp37))))) (pickOr (!t32) t35)))) ?_
        refine OpsOk.cons rfl (.v (VOk.to (VOk.pickI (b := ((!t25) || t28)) (p := ((!t32) || t35)) (q := false) rfl rfl (fun hp38 => (cT (t_beq hp38))) (fun hp38 => rfl)) (pickAnd ((!t25) || t28) ((!t32) || t35))) rfl) ?_
        refine OpsOk.cons rfl (.v (VOk.mv (d := (.v (.bool (((!t25) || t28) && ((!t32) || t35))))) rfl rfl) rfl) ?_
        refine OpsOk.consI rfl rfl rfl (.one rfl) rfl (fun hw39 => (VOk.g (VOk.mv (d := (.v (.int .i32 a0))) rfl rfl))) ?_
        refine OpsOk.consI rfl rfl rfl (.one rfl) rfl (fun hw39 => (GOk.fr (fr' := [(53, (.v (.int .i32 a0)))]) ⟨DLe.of_eq (cT hw39).symm, trivial⟩ (GOk.call rfl rfl cl15 rfl (utf_Char.ok (ifT h41 hw39)) rfl))) ?_
        refine OpsOk.consI rfl rfl rfl (.one rfl) rfl (fun hw39 => (GOk.fr (fr' := [(54, (.v (.bool t40)))]) ⟨DLe.of_eq (cT hw39).symm, trivial⟩ (VOk.g (VOk.not (b := t40) rfl rfl)))) ?_
        refine OpsOk.consI rfl rfl rfl (.one rfl) rfl (fun hw39 => (GOk.fr (fr' := [(55, (.v (.bool (!t40))))]) ⟨DLe.of_eq (cT hw39).symm, trivial⟩ (VOk.g (VOk.mv (d := (.v (.bool (!t40)))) rfl rfl)))) ?_
        refine OpsOk.consI rfl rfl rfl (.two rfl) rfl (fun hw42 => (VOk.g (VOk.mv (d := (.v (.int .i32 a0))) rfl rfl))) ?_
        refine OpsOk.consI rfl rfl rfl (.two rfl) rfl (fun hw42 => (GOk.fr (fr' := [(57, (.v (.int .i32 a0)))]) ⟨DLe.of_eq (cT hw42).symm, trivial⟩ (GOk.call rfl rfl cl12 rfl (utf_Put.ok (ifT h44 hw42)) rfl))) ?_
        refine OpsOk.consI rfl rfl rfl (.two rfl) rfl (fun hw42 => (GOk.fr (fr' := [(58, (S t43))]) ⟨DLe.of_eq (cT hw42).symm, trivial⟩ (VOk.g (VOk.strOp (op := .neq) (a := t43) (b := ([] : Str)) rfl rfl rfl rfl)))) ?_
        refine OpsOk.consI rfl rfl rfl (.one rfl) rfl (fun hw39 => (VOk.g (VOk.to (VOk.pickI (b := (!t40)) (p := true) (q := (!(t43 == ([] : Str)))) rfl (cT hw39) (fun hp45 => rfl) (fun hp45 => (cT (and_i hw39 (f_beq hp45))))) (pickOr (!t40) (!(t43 == ([] : Str))))))) ?_
        refine OpsOk.cons rfl (.v (VOk.to (VOk.pickI (b := (((!t25) || t28) && ((!t32) || t35))) (p := ((!t40) || (!(t43 == ([] : Str))))) (q := false) rfl rfl (fun hp46 => (cT (t_beq hp46))) (fun hp46 => rfl)) (pickAnd (((!t25) || t28) && ((!t32) || t35)) ((!t40) || (!(t43 == ([] : Str)))))) rfl) ?_
        refine OpsOk.cons rfl (.v (VOk.asg (d := (.v (.bool ((((!t25) || t28) && ((!t32) || t35)) && ((!t40) || (!(t43 == ([] : Str)))))))) rfl rfl) rfl) ?_
        exact .done (.mk ⟨.same _, trivial⟩ trivial)
      refine Ok.le (σ' := ⟨[(4, (.v (.bool ((((!t25) || t28) && ((!t32) || t35)) && ((!t40) || (!(t43 == ([] : Str))))))))], []⟩) (.mk ⟨.same _, trivial⟩ trivial) ?_
      refine Ok.ret ?_
      obtain rfl := Option.some.inj H
      exact ⟨.inl rfl, rfl, rfl⟩

/-! watchbill/watchbillref01.Name: function 24 -/
def watchbillref01_Name.l0 (k : Nat) (a0 : Str) : Nat → Int → Option Bool
  | 0, _ => none
  | m + 1, x3_3 => (if (decide (x3_3 < (a0.length : Int))) = true then ((watchbillref01_Rune k a0 x3_3).bind fun (t5 : Int × Int) => (((if (((t5.2 == 0) == false) && ((x3_3 == 0) == true)) = true then watchbillref01_Start k t5.1 else some default)).bind fun (t9 : Bool) => (((if (((t5.2 == 0) || ((x3_3 == 0) && (!t9))) == false) = true then watchbillref01_Part k t5.1 else some default)).bind fun (t14 : Bool) => (if (((t5.2 == 0) || ((x3_3 == 0) && (!t9))) || (!t14)) = true then some false else watchbillref01_Name.l0 k a0 m (IntKind.i64.wrap (x3_3 + t5.2)))))) else some true)
def watchbillref01_Name (k : Nat) (a0 : Str) : Option Bool := (if ((decide ((a0.length : Int) < 1)) || (decide ((a0.length : Int) > 64))) = true then some false else watchbillref01_Name.l0 k a0 k 0)
theorem watchbillref01_Name.ok {k : Nat} {a0 : Str} {r : Bool} (H : watchbillref01_Name k a0 = some r) : Vx.Fn Try.prog 24 [(S a0)] [] (.v (.bool r)) [] := by
  unfold watchbillref01_Name at H
  refine Vx.Fn.of_ok Try.func24 rfl (Nat.le_of_ble_eq_true rfl) ?_
  refine Ok.seq ?_
  refine Ok.region (σ' := ⟨[(0, (S a0))], []⟩) ?_ ?_
  · refine OpsOk.cons rfl (.v (VOk.asg (d := (.v (.bool false))) rfl rfl) rfl) ?_
    exact .done (.mk ⟨.same _, trivial⟩ trivial)
  refine Ok.seq ?_
  refine Ok.seq ?_
  refine Ok.region (σ' := ⟨[(0, (S a0)), (13, (.v (.bool ((decide ((a0.length : Int) < 1)) || (decide ((a0.length : Int) > 64))))))], []⟩) ?_ ?_
  · refine OpsOk.cons rfl (.v (VOk.mv (d := (S a0)) rfl rfl) rfl) ?_
    refine OpsOk.cons rfl (.v (VOk.lenStr (s := a0) rfl Try.underlying9 rfl) rfl) ?_
    refine OpsOk.cons rfl (.v (VOk.arith (op := .lss) (k := .i64) (a := (a0.length : Int)) (b := 1) rfl rfl rfl rfl) rfl) ?_
    refine OpsOk.cons rfl (.v (VOk.mv (d := (.v (.bool (decide ((a0.length : Int) < 1))))) rfl rfl) rfl) ?_
    refine OpsOk.consI rfl rfl rfl (.one rfl) rfl (fun hw1 => (VOk.g (VOk.mv (d := (S a0)) rfl rfl))) ?_
    refine OpsOk.consI rfl rfl rfl (.one rfl) rfl (fun hw1 => (GOk.fr (fr' := [(10, (S a0))]) ⟨DLe.of_eq (cT hw1).symm, trivial⟩ (VOk.g (VOk.lenStr (s := a0) rfl Try.underlying9 rfl)))) ?_
    refine OpsOk.consI rfl rfl rfl (.one rfl) rfl (fun hw1 => (GOk.fr (fr' := [(11, (.v (.int .i64 (a0.length : Int))))]) ⟨DLe.of_eq (cT hw1).symm, trivial⟩ (VOk.g (VOk.arith (op := .gtr) (k := .i64) (a := (a0.length : Int)) (b := 64) rfl rfl rfl rfl)))) ?_
    refine OpsOk.cons rfl (.v (VOk.to (VOk.pickI (b := (decide ((a0.length : Int) < 1))) (p := true) (q := (decide ((a0.length : Int) > 64))) rfl rfl (fun hp2 => rfl) (fun hp2 => (cT (f_beq hp2)))) (pickOr (decide ((a0.length : Int) < 1)) (decide ((a0.length : Int) > 64)))) rfl) ?_
    exact .done (.mk ⟨.same _, .same _, trivial⟩ trivial)
  refine Ok.test (b := ((decide ((a0.length : Int) < 1)) || (decide ((a0.length : Int) > 64)))) rfl (fun hb19 => ?_) (fun hb19 => ?_)
  · replace H := ifT H hb19
    refine Ok.seq ?_
    refine Ok.region (σ' := ⟨[(2, (.v (.bool false)))], []⟩) ?_ ?_
    · refine OpsOk.cons rfl (.v (VOk.asg (d := (.v (.bool false))) rfl rfl) rfl) ?_
      exact .done (.mk ⟨.same _, trivial⟩ trivial)
    refine Ok.le (σ' := ⟨[(2, (.v (.bool false)))], []⟩) (.mk ⟨.same _, trivial⟩ trivial) ?_
    refine Ok.ret ?_
    obtain rfl := Option.some.inj H
    exact ⟨.inl rfl, rfl, rfl⟩
  · replace H := ifF H hb19
    refine Ok.le (σ' := ⟨[(0, (S a0))], []⟩) (.mk ⟨.same _, trivial⟩ trivial) ?_
    refine Ok.skip ?_
    refine Ok.seq ?_
    refine Ok.region (σ' := ⟨[(0, (S a0)), (3, (.v (.int .i64 0)))], []⟩) ?_ ?_
    · refine OpsOk.cons rfl (.v (VOk.asg (d := (.v (.int .i64 0))) rfl rfl) rfl) ?_
      exact .done (.mk ⟨.same _, .same _, trivial⟩ trivial)
    refine Ok.seq ?_
    refine Ok.block ?_
    refine Ok.le (σ' := ⟨[(0, (S a0)), (3, (.v (.int .i64 0)))], []⟩) (.mk ⟨.same _, .same _, trivial⟩ trivial) ?_
    refine Ok.loop (fun m σ => ∃ (x3_3 : Int), σ = ⟨[(0, (S a0)), (3, (.v (.int .i64 x3_3)))], []⟩ ∧ watchbillref01_Name.l0 k a0 m x3_3 = some r) k ⟨0, rfl, H⟩ ?_
    rintro m σ ⟨x3_3, rfl, H⟩
    cases m with
    | zero => exact absurd H (by simp [watchbillref01_Name.l0])
    | succ m =>
      unfold watchbillref01_Name.l0 at H
      refine Ok.seq ?_
      refine Ok.seq ?_
      refine Ok.region (σ' := ⟨[(0, (S a0)), (3, (.v (.int .i64 x3_3))), (17, (.v (.bool (decide (x3_3 < (a0.length : Int))))))], []⟩) ?_ ?_
      · refine OpsOk.cons rfl (.v (VOk.mv (d := (.v (.int .i64 x3_3))) rfl rfl) rfl) ?_
        refine OpsOk.cons rfl (.v (VOk.mv (d := (S a0)) rfl rfl) rfl) ?_
        refine OpsOk.cons rfl (.v (VOk.lenStr (s := a0) rfl Try.underlying9 rfl) rfl) ?_
        refine OpsOk.cons rfl (.v (VOk.arith (op := .lss) (k := .i64) (a := x3_3) (b := (a0.length : Int)) rfl rfl rfl rfl) rfl) ?_
        exact .done (.mk ⟨.same _, .same _, .same _, trivial⟩ trivial)
      refine Ok.test (b := (decide (x3_3 < (a0.length : Int)))) rfl (fun hb18 => ?_) (fun hb18 => ?_)
      · replace H := ifT H hb18
        refine Ok.le (σ' := ⟨[(0, (S a0)), (3, (.v (.int .i64 x3_3)))], []⟩) (.mk ⟨.same _, .same _, trivial⟩ trivial) ?_
        refine Ok.skip ?_
        refine Ok.block ?_
        refine Ok.seq ?_
        obtain ⟨t5, h6, H⟩ := bindE H
        refine Ok.region (σ' := ⟨[(0, (S a0)), (3, (.v (.int .i64 x3_3))), (4, (.v (.int .i64 t5.1))), (5, (.v (.int .i64 t5.2)))], []⟩) ?_ ?_
        · refine OpsOk.cons rfl (.v (VOk.mv (d := (S a0)) rfl rfl) rfl) ?_
          refine OpsOk.cons rfl (.v (VOk.mv (d := (.v (.int .i64 x3_3))) rfl rfl) rfl) ?_
          refine OpsOk.cons rfl (.g (GOk.call rfl rfl cl11 rfl (watchbillref01_Rune.ok h6) rfl) rfl) ?_
          refine OpsOk.cons rfl (.v (VOk.mv (d := (.tup [(.v (.int .i64 t5.1)), (.v (.int .i64 t5.2))])) rfl rfl) rfl) ?_
          refine OpsOk.cons rfl (.v (VOk.extract (d := (.v (.int .i64 t5.1))) rfl rfl rfl) rfl) ?_
          refine OpsOk.cons rfl (.v (VOk.extract (d := (.v (.int .i64 t5.2))) rfl rfl rfl) rfl) ?_
          refine OpsOk.cons rfl (.v (VOk.asg (d := (.v (.int .i64 t5.1))) rfl rfl) rfl) ?_
          refine OpsOk.cons rfl (.v (VOk.asg (d := (.v (.int .i64 t5.2))) rfl rfl) rfl) ?_
          exact .done (.mk ⟨.same _, .same _, .same _, .same _, trivial⟩ trivial)
        refine Ok.seq ?_
        refine Ok.seq ?_
        obtain ⟨t9, h10, H⟩ := bindE H
        obtain ⟨t14, h15, H⟩ := bindE H
        refine Ok.region (σ' := ⟨[(0, (S a0)), (3, (.v (.int .i64 x3_3))), (5, (.v (.int .i64 t5.2))), (39, (.v (.bool (((t5.2 == 0) || ((x3_3 == 0) && (!t9))) || (!t14)))))], []⟩) ?_ ?_
        · refine OpsOk.cons rfl (.v (VOk.mv (d := (.v (.int .i64 t5.2))) rfl rfl) rfl) ?_
          refine OpsOk.cons rfl (.v (VOk.arith (op := .eql) (k := .i64) (a := t5.2) (b := 0) rfl rfl rfl rfl) rfl) ?_
          refine OpsOk.cons rfl (.v (VOk.mv (d := (.v (.bool (t5.2 == 0)))) rfl rfl) rfl) ?_
          refine OpsOk.consI rfl rfl rfl (.one rfl) rfl (fun hw7 => (VOk.g (VOk.mv (d := (.v (.int .i64 x3_3))) rfl rfl))) ?_
          refine OpsOk.consI rfl rfl rfl (.one rfl) rfl (fun hw7 => (GOk.fr (fr' := [(27, (.v (.int .i64 x3_3)))]) ⟨DLe.of_eq (cT hw7).symm, trivial⟩ (VOk.g (VOk.arith (op := .eql) (k := .i64) (a := x3_3) (b := 0) rfl rfl rfl rfl)))) ?_
          refine OpsOk.consI rfl rfl rfl (.one rfl) rfl (fun hw7 => (GOk.fr (fr' := [(28, (.v (.bool (x3_3 == 0))))]) ⟨DLe.of_eq (cT hw7).symm, trivial⟩ (VOk.g (VOk.mv (d := (.v (.bool (x3_3 == 0)))) rfl rfl)))) ?_
          refine OpsOk.consI rfl rfl rfl (.two rfl) rfl (fun hw8 => (VOk.g (VOk.mv (d := (.v (.int .i64 t5.1))) rfl rfl))) ?_
          refine OpsOk.consI rfl rfl rfl (.two rfl) rfl (fun hw8 => (GOk.fr (fr' := [(30, (.v (.int .i64 t5.1)))]) ⟨DLe.of_eq (cT hw8).symm, trivial⟩ (GOk.call rfl rfl cl18 rfl (watchbillref01_Start.ok (ifT h10 hw8)) rfl))) ?_
          refine OpsOk.consI rfl rfl rfl (.two rfl) rfl (fun hw8 => (GOk.fr (fr' := [(31, (.v (.bool t9)))]) ⟨DLe.of_eq (cT hw8).symm, trivial⟩ (VOk.g (VOk.not (b := t9) rfl rfl)))) ?_
          refine OpsOk.consI rfl rfl rfl (.one rfl) rfl (fun hw7 => (VOk.g (VOk.to (VOk.pickI (b := (x3_3 == 0)) (p := (!t9)) (q := false) rfl (cT hw7) (fun hp11 => (cT (and_i hw7 (t_beq hp11)))) (fun hp11 => rfl)) (pickAnd (x3_3 == 0) (!t9))))) ?_
          refine OpsOk.cons rfl (.v (VOk.to (VOk.pickI (b := (t5.2 == 0)) (p := true) (q := ((x3_3 == 0) && (!t9))) rfl rfl (fun hp12 => rfl) (fun hp12 => (cT (f_beq hp12)))) (pickOr (t5.2 == 0) ((x3_3 == 0) && (!t9)))) rfl) ?_
          refine OpsOk.cons rfl (.v (VOk.mv (d := (.v (.bool ((t5.2 == 0) || ((x3_3 == 0) && (!t9)))))) rfl rfl) rfl) ?_
          refine OpsOk.consI rfl rfl rfl (.one rfl) rfl (fun hw13 => (VOk.g (VOk.mv (d := (.v (.int .i64 t5.1))) rfl rfl))) ?_
          refine OpsOk.consI rfl rfl rfl (.one rfl) rfl (fun hw13 => (GOk.fr (fr' := [(36, (.v (.int .i64 t5.1)))]) ⟨DLe.of_eq (cT hw13).symm, trivial⟩ (GOk.call rfl rfl cl20 rfl (watchbillref01_Part.ok (ifT h15 hw13)) rfl))) ?_
          refine OpsOk.consI rfl rfl rfl (.one rfl) rfl (fun hw13 => (GOk.fr (fr' := [(37, (.v (.bool t14)))]) ⟨DLe.of_eq (cT hw13).symm, trivial⟩ (VOk.g (VOk.not (b := t14) rfl rfl)))) ?_
          refine OpsOk.cons rfl (.v (VOk.to (VOk.pickI (b := ((t5.2 == 0) || ((x3_3 == 0) && (!t9)))) (p := true) (q := (!t14)) rfl rfl (fun hp16 => rfl) (fun hp16 => (cT (f_beq hp16)))) (pickOr ((t5.2 == 0) || ((x3_3 == 0) && (!t9))) (!t14))) rfl) ?_
          exact .done (.mk ⟨.same _, .same _, .same _, .same _, trivial⟩ trivial)
        refine Ok.test (b := (((t5.2 == 0) || ((x3_3 == 0) && (!t9))) || (!t14))) rfl (fun hb17 => ?_) (fun hb17 => ?_)
        · replace H := ifT H hb17
          refine Ok.seq ?_
          refine Ok.region (σ' := ⟨[(2, (.v (.bool false)))], []⟩) ?_ ?_
          · refine OpsOk.cons rfl (.v (VOk.asg (d := (.v (.bool false))) rfl rfl) rfl) ?_
            exact .done (.mk ⟨.same _, trivial⟩ trivial)
          refine Ok.le (σ' := ⟨[(2, (.v (.bool false)))], []⟩) (.mk ⟨.same _, trivial⟩ trivial) ?_
          refine Ok.ret ?_
          obtain rfl := Option.some.inj H
          exact ⟨.inl rfl, rfl, rfl⟩
        · replace H := ifF H hb17
          refine Ok.le (σ' := ⟨[(0, (S a0)), (3, (.v (.int .i64 x3_3))), (5, (.v (.int .i64 t5.2)))], []⟩) (.mk ⟨.same _, .same _, .same _, trivial⟩ trivial) ?_
          refine Ok.skip ?_
          refine Ok.region (σ' := ⟨[(0, (S a0)), (3, (.v (.int .i64 (IntKind.i64.wrap (x3_3 + t5.2)))))], []⟩) ?_ ?_
          · refine OpsOk.cons rfl (.v (VOk.mv (d := (.v (.int .i64 x3_3))) rfl rfl) rfl) ?_
            refine OpsOk.cons rfl (.v (VOk.mv (d := (.v (.int .i64 t5.2))) rfl rfl) rfl) ?_
            refine OpsOk.cons rfl (.v (VOk.arith (op := .add) (k := .i64) (a := x3_3) (b := t5.2) rfl rfl rfl rfl) rfl) ?_
            refine OpsOk.cons rfl (.v (VOk.asg (d := (.v (.int .i64 (IntKind.i64.wrap (x3_3 + t5.2))))) rfl rfl) rfl) ?_
            exact .done (.mk ⟨.same _, .same _, trivial⟩ trivial)
          exact ⟨m, Nat.lt_succ_self m, (IntKind.i64.wrap (x3_3 + t5.2)), rfl, H⟩
      · replace H := ifF H hb18
        refine Ok.le (σ' := ⟨[], []⟩) (.mk trivial trivial) ?_
        refine Ok.exit ?_
        refine Ok.seq ?_
        refine Ok.region (σ' := ⟨[(2, (.v (.bool true)))], []⟩) ?_ ?_
        · refine OpsOk.cons rfl (.v (VOk.asg (d := (.v (.bool true))) rfl rfl) rfl) ?_
          exact .done (.mk ⟨.same _, trivial⟩ trivial)
        refine Ok.le (σ' := ⟨[(2, (.v (.bool true)))], []⟩) (.mk ⟨.same _, trivial⟩ trivial) ?_
        refine Ok.ret ?_
        obtain rfl := Option.some.inj H
        exact ⟨.inl rfl, rfl, rfl⟩

/-! watchbill/watchbillref01.Trim: function 26 -/
def watchbillref01_Trim.l1 (k : Nat) (a0 : Str) (x3_1 : Int) : Nat → Int → Option Str
  | 0, _ => none
  | m + 1, x4_8 => (if (((decide (x4_8 > x3_1)) == true) = true → (0 : Int) ≤ (IntKind.i64.wrap (x4_8 - 1)) ∧ (IntKind.i64.wrap (x4_8 - 1)) < (a0.length : Int)) then (((if ((decide (x4_8 > x3_1)) == true) = true then watchbillref01_Blank (bt a0 (IntKind.i64.wrap (x4_8 - 1))) else some default)).bind fun (t12 : Bool) => (if ((decide (x4_8 > x3_1)) && t12) = true then watchbillref01_Trim.l1 k a0 x3_1 m (IntKind.i64.wrap (x4_8 - 1)) else (if (0 : Int) ≤ x3_1 ∧ x3_1 ≤ x4_8 ∧ x4_8 ≤ (a0.length : Int) then some (sl a0 x3_1 x4_8) else none))) else none)
def watchbillref01_Trim.l0 (k : Nat) (a0 : Str) : Nat → Int → Option Str
  | 0, _ => none
  | m + 1, x3_1 => (if (((decide (x3_1 < (a0.length : Int))) == true) = true → (0 : Int) ≤ x3_1 ∧ x3_1 < (a0.length : Int)) then (((if ((decide (x3_1 < (a0.length : Int))) == true) = true then watchbillref01_Blank (bt a0 x3_1) else some default)).bind fun (t5 : Bool) => (if ((decide (x3_1 < (a0.length : Int))) && t5) = true then watchbillref01_Trim.l0 k a0 m (IntKind.i64.wrap (x3_1 + 1)) else watchbillref01_Trim.l1 k a0 x3_1 k (a0.length : Int))) else none)
def watchbillref01_Trim (k : Nat) (a0 : Str) : Option Str := watchbillref01_Trim.l0 k a0 k 0
theorem watchbillref01_Trim.ok {k : Nat} {a0 : Str} {r : Str} (H : watchbillref01_Trim k a0 = some r) : Vx.Fn Try.prog 26 [(S a0)] [] (S r) [] := by
  unfold watchbillref01_Trim at H
  refine Vx.Fn.of_ok Try.func26 rfl (Nat.le_of_ble_eq_true rfl) ?_
  refine Ok.seq ?_
  refine Ok.region (σ' := ⟨[(0, (S a0))], []⟩) ?_ ?_
  · refine OpsOk.cons rfl (.v (VOk.asg (d := (S ([] : Str))) rfl rfl) rfl) ?_
    exact .done (.mk ⟨.same _, trivial⟩ trivial)
  refine Ok.seq ?_
  refine Ok.region (σ' := ⟨[(0, (S a0)), (3, (.v (.int .i64 0)))], []⟩) ?_ ?_
  · refine OpsOk.cons rfl (.v (VOk.asg (d := (.v (.int .i64 0))) rfl rfl) rfl) ?_
    exact .done (.mk ⟨.same _, .same _, trivial⟩ trivial)
  refine Ok.seq ?_
  refine Ok.region (σ' := ⟨[(0, (S a0)), (3, (.v (.int .i64 0))), (4, (.v (.int .i64 (a0.length : Int))))], []⟩) ?_ ?_
  · refine OpsOk.cons rfl (.v (VOk.mv (d := (S a0)) rfl rfl) rfl) ?_
    refine OpsOk.cons rfl (.v (VOk.lenStr (s := a0) rfl Try.underlying9 rfl) rfl) ?_
    refine OpsOk.cons rfl (.v (VOk.asg (d := (.v (.int .i64 (a0.length : Int)))) rfl rfl) rfl) ?_
    exact .done (.mk ⟨.same _, .same _, .same _, trivial⟩ trivial)
  refine Ok.seq ?_
  refine Ok.block ?_
  refine Ok.le (σ' := ⟨[(0, (S a0)), (3, (.v (.int .i64 0))), (4, (.v (.int .i64 (a0.length : Int))))], []⟩) (.mk ⟨.same _, .same _, .same _, trivial⟩ trivial) ?_
  refine Ok.loop (fun m σ => ∃ (x3_1 : Int), σ = ⟨[(0, (S a0)), (3, (.v (.int .i64 x3_1))), (4, (.v (.int .i64 (a0.length : Int))))], []⟩ ∧ watchbillref01_Trim.l0 k a0 m x3_1 = some r) k ⟨0, rfl, H⟩ ?_
  rintro m σ ⟨x3_1, rfl, H⟩
  cases m with
  | zero => exact absurd H (by simp [watchbillref01_Trim.l0])
  | succ m =>
    unfold watchbillref01_Trim.l0 at H
    refine Ok.seq ?_
    refine Ok.seq ?_
    obtain ⟨c4, H⟩ := assertE H
    obtain ⟨t5, h6, H⟩ := bindE H
    refine Ok.region (σ' := ⟨[(0, (S a0)), (3, (.v (.int .i64 x3_1))), (4, (.v (.int .i64 (a0.length : Int)))), (15, (.v (.bool ((decide (x3_1 < (a0.length : Int))) && t5))))], []⟩) ?_ ?_
    · refine OpsOk.cons rfl (.v (VOk.mv (d := (.v (.int .i64 x3_1))) rfl rfl) rfl) ?_
      refine OpsOk.cons rfl (.v (VOk.mv (d := (.v (.int .i64 (a0.length : Int)))) rfl rfl) rfl) ?_
      refine OpsOk.cons rfl (.v (VOk.arith (op := .lss) (k := .i64) (a := x3_1) (b := (a0.length : Int)) rfl rfl rfl rfl) rfl) ?_
      refine OpsOk.cons rfl (.v (VOk.mv (d := (.v (.bool (decide (x3_1 < (a0.length : Int)))))) rfl rfl) rfl) ?_
      refine OpsOk.consI rfl rfl rfl (.one rfl) rfl (fun hw3 => (VOk.g (VOk.mv (d := (S a0)) rfl rfl))) ?_
      refine OpsOk.consI rfl rfl rfl (.one rfl) rfl (fun hw3 => (VOk.g (VOk.mv (d := (.v (.int .i64 x3_1))) rfl rfl))) ?_
      refine OpsOk.consI rfl rfl rfl (.one rfl) rfl (fun hw3 => (GOk.fr (fr' := [(11, (S a0)), (12, (.v (.int .i64 x3_1)))]) ⟨DLe.of_eq (cT hw3).symm, DLe.of_eq (cT hw3).symm, trivial⟩ (VOk.g (VOk.indexStr (s := a0) (i := x3_1) rfl Try.underlying9 rfl rfl (c4 hw3))))) ?_
      refine OpsOk.consI rfl rfl rfl (.one rfl) rfl (fun hw3 => (GOk.fr (fr' := [(13, (.v (.int .u8 (bt a0 x3_1))))]) ⟨DLe.of_eq (cT hw3).symm, trivial⟩ (GOk.call rfl rfl cl22 rfl (watchbillref01_Blank.ok (ifT h6 hw3)) rfl))) ?_
      refine OpsOk.cons rfl (.v (VOk.to (VOk.pickI (b := (decide (x3_1 < (a0.length : Int)))) (p := t5) (q := false) rfl rfl (fun hp7 => (cT (t_beq hp7))) (fun hp7 => rfl)) (pickAnd (decide (x3_1 < (a0.length : Int))) t5)) rfl) ?_
      exact .done (.mk ⟨.same _, .same _, .same _, .same _, trivial⟩ trivial)
    refine Ok.test (b := ((decide (x3_1 < (a0.length : Int))) && t5)) rfl (fun hb17 => ?_) (fun hb17 => ?_)
    · replace H := ifT H hb17
      refine Ok.le (σ' := ⟨[(0, (S a0)), (3, (.v (.int .i64 x3_1))), (4, (.v (.int .i64 (a0.length : Int))))], []⟩) (.mk ⟨.same _, .same _, .same _, trivial⟩ trivial) ?_
      refine Ok.skip ?_
      refine Ok.block ?_
      refine Ok.region (σ' := ⟨[(0, (S a0)), (3, (.v (.int .i64 (IntKind.i64.wrap (x3_1 + 1))))), (4, (.v (.int .i64 (a0.length : Int))))], []⟩) ?_ ?_
      · refine OpsOk.cons rfl (.v (VOk.mv (d := (.v (.int .i64 x3_1))) rfl rfl) rfl) ?_
        refine OpsOk.cons rfl (.v (VOk.arith (op := .add) (k := .i64) (a := x3_1) (b := 1) rfl rfl rfl rfl) rfl) ?_
        refine OpsOk.cons rfl (.v (VOk.asg (d := (.v (.int .i64 (IntKind.i64.wrap (x3_1 + 1))))) rfl rfl) rfl) ?_
        exact .done (.mk ⟨.same _, .same _, .same _, trivial⟩ trivial)
      exact ⟨m, Nat.lt_succ_self m, (IntKind.i64.wrap (x3_1 + 1)), rfl, H⟩
    · replace H := ifF H hb17
      refine Ok.le (σ' := ⟨[(0, (S a0)), (3, (.v (.int .i64 x3_1))), (4, (.v (.int .i64 (a0.length : Int))))], []⟩) (.mk ⟨.same _, .same _, .same _, trivial⟩ trivial) ?_
      refine Ok.exit ?_
      refine Ok.seq ?_
      refine Ok.block ?_
      refine Ok.le (σ' := ⟨[(0, (S a0)), (3, (.v (.int .i64 x3_1))), (4, (.v (.int .i64 (a0.length : Int))))], []⟩) (.mk ⟨.same _, .same _, .same _, trivial⟩ trivial) ?_
      refine Ok.loop (fun m σ => ∃ (x4_8 : Int), σ = ⟨[(0, (S a0)), (3, (.v (.int .i64 x3_1))), (4, (.v (.int .i64 x4_8)))], []⟩ ∧ watchbillref01_Trim.l1 k a0 x3_1 m x4_8 = some r) k ⟨(a0.length : Int), rfl, H⟩ ?_
      rintro m σ ⟨x4_8, rfl, H⟩
      cases m with
      | zero => exact absurd H (by simp [watchbillref01_Trim.l1])
      | succ m =>
        unfold watchbillref01_Trim.l1 at H
        refine Ok.seq ?_
        refine Ok.seq ?_
        obtain ⟨c11, H⟩ := assertE H
        obtain ⟨t12, h13, H⟩ := bindE H
        refine Ok.region (σ' := ⟨[(0, (S a0)), (3, (.v (.int .i64 x3_1))), (4, (.v (.int .i64 x4_8))), (27, (.v (.bool ((decide (x4_8 > x3_1)) && t12))))], []⟩) ?_ ?_
        · refine OpsOk.cons rfl (.v (VOk.mv (d := (.v (.int .i64 x4_8))) rfl rfl) rfl) ?_
          refine OpsOk.cons rfl (.v (VOk.mv (d := (.v (.int .i64 x3_1))) rfl rfl) rfl) ?_
          refine OpsOk.cons rfl (.v (VOk.arith (op := .gtr) (k := .i64) (a := x4_8) (b := x3_1) rfl rfl rfl rfl) rfl) ?_
          refine OpsOk.cons rfl (.v (VOk.mv (d := (.v (.bool (decide (x4_8 > x3_1))))) rfl rfl) rfl) ?_
          refine OpsOk.consI rfl rfl rfl (.one rfl) rfl (fun hw10 => (VOk.g (VOk.mv (d := (S a0)) rfl rfl))) ?_
          refine OpsOk.consI rfl rfl rfl (.one rfl) rfl (fun hw10 => (VOk.g (VOk.mv (d := (.v (.int .i64 x4_8))) rfl rfl))) ?_
          refine OpsOk.consI rfl rfl rfl (.one rfl) rfl (fun hw10 => (GOk.fr (fr' := [(23, (.v (.int .i64 x4_8)))]) ⟨DLe.of_eq (cT hw10).symm, trivial⟩ (VOk.g (VOk.arith (op := .sub) (k := .i64) (a := x4_8) (b := 1) rfl rfl rfl rfl)))) ?_
          refine OpsOk.consI rfl rfl rfl (.one rfl) rfl (fun hw10 => (GOk.fr (fr' := [(22, (S a0)), (24, (.v (.int .i64 (IntKind.i64.wrap (x4_8 - 1)))))]) ⟨DLe.of_eq (cT hw10).symm, DLe.of_eq (cT hw10).symm, trivial⟩ (VOk.g (VOk.indexStr (s := a0) (i := (IntKind.i64.wrap (x4_8 - 1))) rfl Try.underlying9 rfl rfl (c11 hw10))))) ?_
          refine OpsOk.consI rfl rfl rfl (.one rfl) rfl (fun hw10 => (GOk.fr (fr' := [(25, (.v (.int .u8 (bt a0 (IntKind.i64.wrap (x4_8 - 1))))))]) ⟨DLe.of_eq (cT hw10).symm, trivial⟩ (GOk.call rfl rfl cl22 rfl (watchbillref01_Blank.ok (ifT h13 hw10)) rfl))) ?_
          refine OpsOk.cons rfl (.v (VOk.to (VOk.pickI (b := (decide (x4_8 > x3_1))) (p := t12) (q := false) rfl rfl (fun hp14 => (cT (t_beq hp14))) (fun hp14 => rfl)) (pickAnd (decide (x4_8 > x3_1)) t12)) rfl) ?_
          exact .done (.mk ⟨.same _, .same _, .same _, .same _, trivial⟩ trivial)
        refine Ok.test (b := ((decide (x4_8 > x3_1)) && t12)) rfl (fun hb16 => ?_) (fun hb16 => ?_)
        · replace H := ifT H hb16
          refine Ok.le (σ' := ⟨[(0, (S a0)), (3, (.v (.int .i64 x3_1))), (4, (.v (.int .i64 x4_8)))], []⟩) (.mk ⟨.same _, .same _, .same _, trivial⟩ trivial) ?_
          refine Ok.skip ?_
          refine Ok.block ?_
          refine Ok.region (σ' := ⟨[(0, (S a0)), (3, (.v (.int .i64 x3_1))), (4, (.v (.int .i64 (IntKind.i64.wrap (x4_8 - 1)))))], []⟩) ?_ ?_
          · refine OpsOk.cons rfl (.v (VOk.mv (d := (.v (.int .i64 x4_8))) rfl rfl) rfl) ?_
            refine OpsOk.cons rfl (.v (VOk.arith (op := .sub) (k := .i64) (a := x4_8) (b := 1) rfl rfl rfl rfl) rfl) ?_
            refine OpsOk.cons rfl (.v (VOk.asg (d := (.v (.int .i64 (IntKind.i64.wrap (x4_8 - 1))))) rfl rfl) rfl) ?_
            exact .done (.mk ⟨.same _, .same _, .same _, trivial⟩ trivial)
          exact ⟨m, Nat.lt_succ_self m, (IntKind.i64.wrap (x4_8 - 1)), rfl, H⟩
        · replace H := ifF H hb16
          refine Ok.le (σ' := ⟨[(0, (S a0)), (3, (.v (.int .i64 x3_1))), (4, (.v (.int .i64 x4_8)))], []⟩) (.mk ⟨.same _, .same _, .same _, trivial⟩ trivial) ?_
          refine Ok.exit ?_
          refine Ok.seq ?_
          obtain ⟨c15, H⟩ := assertE H
          refine Ok.region (σ' := ⟨[(2, (S (sl a0 x3_1 x4_8)))], []⟩) ?_ ?_
          · refine OpsOk.cons rfl (.v (VOk.mv (d := (S a0)) rfl rfl) rfl) ?_
            refine OpsOk.cons rfl (.v (VOk.mv (d := (.v (.int .i64 x3_1))) rfl rfl) rfl) ?_
            refine OpsOk.cons rfl (.v (VOk.mv (d := (.v (.int .i64 x4_8))) rfl rfl) rfl) ?_
            refine OpsOk.cons rfl (.v (VOk.sliceStr (s := a0) (l := x3_1) (h := x4_8) rfl Try.underlying9 rfl rfl rfl c15) rfl) ?_
            refine OpsOk.cons rfl (.v (VOk.asg (d := (S (sl a0 x3_1 x4_8))) rfl rfl) rfl) ?_
            exact .done (.mk ⟨.same _, trivial⟩ trivial)
          refine Ok.le (σ' := ⟨[(2, (S (sl a0 x3_1 x4_8)))], []⟩) (.mk ⟨.same _, trivial⟩ trivial) ?_
          refine Ok.ret ?_
          obtain rfl := Option.some.inj H
          exact ⟨.inl rfl, rfl, rfl⟩

/-! watchbill/watchbilllaw01.UtfNames: function 7 -/
def watchbilllaw01_UtfNames (k : Nat) (a0 : Str) : Option Bool := ((watchbilllaw01_awake k).bind fun (t1 : Bool) => (if (!t1) = true then some false else (if (decide ((a0.length : Int) > 20000)) = true then some true else ((utf_Name k a0).bind fun (t3 : Bool) => ((watchbillref01_Name k a0).bind fun (t5 : Bool) => (((if ((t3 == t5) == true) = true then utf_Trim k a0 else some default)).bind fun (t8 : Str) => (((if ((t3 == t5) == true) = true then watchbillref01_Trim k a0 else some default)).bind fun (t10 : Str) => (((if (((t3 == t5) && (t8 == t10)) == true) = true then utf_Trim k a0 else some default)).bind fun (t14 : Str) => (((if (((t3 == t5) && (t8 == t10)) == true) = true then utf_Trim k t14 else some default)).bind fun (t16 : Str) => (((if (((t3 == t5) && (t8 == t10)) == true) = true then utf_Trim k a0 else some default)).bind fun (t18 : Str) => some (((t3 == t5) && (t8 == t10)) && (t16 == t18))))))))))))
theorem watchbilllaw01_UtfNames.ok {k : Nat} {a0 : Str} {r : Bool} (H : watchbilllaw01_UtfNames k a0 = some r) : Vx.Fn Try.prog 7 [(S a0)] [] (.v (.bool r)) [] := by
  unfold watchbilllaw01_UtfNames at H
  refine Vx.Fn.of_ok Try.func7 rfl (Nat.le_of_ble_eq_true rfl) ?_
  refine Ok.seq ?_
  refine Ok.region (σ' := ⟨[(0, (S a0))], []⟩) ?_ ?_
  · refine OpsOk.cons rfl (.v (VOk.asg (d := (.v (.bool false))) rfl rfl) rfl) ?_
    exact .done (.mk ⟨.same _, trivial⟩ trivial)
  refine Ok.seq ?_
  refine Ok.seq ?_
  obtain ⟨t1, h2, H⟩ := bindE H
  refine Ok.region (σ' := ⟨[(0, (S a0)), (4, (.v (.bool (!t1))))], []⟩) ?_ ?_
  · refine OpsOk.cons rfl (.g (GOk.call rfl rfl cl9 rfl (watchbilllaw01_awake.ok h2) rfl) rfl) ?_
    refine OpsOk.cons rfl (.v (VOk.not (b := t1) rfl rfl) rfl) ?_
    exact .done (.mk ⟨.same _, .same _, trivial⟩ trivial)
  refine Ok.test (b := (!t1)) rfl (fun hb22 => ?_) (fun hb22 => ?_)
  · replace H := ifT H hb22
    refine Ok.seq ?_
    refine Ok.region (σ' := ⟨[(2, (.v (.bool false)))], []⟩) ?_ ?_
    · refine OpsOk.cons rfl (.v (VOk.asg (d := (.v (.bool false))) rfl rfl) rfl) ?_
      exact .done (.mk ⟨.same _, trivial⟩ trivial)
    refine Ok.le (σ' := ⟨[(2, (.v (.bool false)))], []⟩) (.mk ⟨.same _, trivial⟩ trivial) ?_
    refine Ok.ret ?_
    obtain rfl := Option.some.inj H
    exact ⟨.inl rfl, rfl, rfl⟩
  · replace H := ifF H hb22
    refine Ok.le (σ' := ⟨[(0, (S a0))], []⟩) (.mk ⟨.same _, trivial⟩ trivial) ?_
    refine Ok.skip ?_
    refine Ok.seq ?_
    refine Ok.seq ?_
    refine Ok.region (σ' := ⟨[(0, (S a0)), (7, (.v (.bool (decide ((a0.length : Int) > 20000)))))], []⟩) ?_ ?_
    · refine OpsOk.cons rfl (.v (VOk.mv (d := (S a0)) rfl rfl) rfl) ?_
      refine OpsOk.cons rfl (.v (VOk.lenStr (s := a0) rfl Try.underlying9 rfl) rfl) ?_
      refine OpsOk.cons rfl (.v (VOk.arith (op := .gtr) (k := .i64) (a := (a0.length : Int)) (b := 20000) rfl rfl rfl rfl) rfl) ?_
      exact .done (.mk ⟨.same _, .same _, trivial⟩ trivial)
    refine Ok.test (b := (decide ((a0.length : Int) > 20000))) rfl (fun hb21 => ?_) (fun hb21 => ?_)
    · replace H := ifT H hb21
      refine Ok.seq ?_
      refine Ok.region (σ' := ⟨[(2, (.v (.bool true)))], []⟩) ?_ ?_
      · refine OpsOk.cons rfl (.v (VOk.asg (d := (.v (.bool true))) rfl rfl) rfl) ?_
        exact .done (.mk ⟨.same _, trivial⟩ trivial)
      refine Ok.le (σ' := ⟨[(2, (.v (.bool true)))], []⟩) (.mk ⟨.same _, trivial⟩ trivial) ?_
      refine Ok.ret ?_
      obtain rfl := Option.some.inj H
      exact ⟨.inl rfl, rfl, rfl⟩
    · replace H := ifF H hb21
      refine Ok.le (σ' := ⟨[(0, (S a0))], []⟩) (.mk ⟨.same _, trivial⟩ trivial) ?_
      refine Ok.skip ?_
      refine Ok.seq ?_
      obtain ⟨t3, h4, H⟩ := bindE H
      obtain ⟨t5, h6, H⟩ := bindE H
      obtain ⟨t8, h9, H⟩ := bindE H
      obtain ⟨t10, h11, H⟩ := bindE H
      obtain ⟨t14, h15, H⟩ := bindE H
      obtain ⟨t16, h17, H⟩ := bindE H
      obtain ⟨t18, h19, H⟩ := bindE H
      refine Ok.region (σ' := ⟨[(2, (.v (.bool (((t3 == t5) && (t8 == t10)) && (t16 == t18)))))], []⟩) ?_ ?_
      · refine OpsOk.cons rfl (.v (VOk.mv (d := (S a0)) rfl rfl) rfl) ?_
        refine OpsOk.cons rfl (.g (GOk.call rfl rfl cl23 rfl (utf_Name.ok h4) rfl) rfl) ?_
        refine OpsOk.cons rfl (.v (VOk.mv (d := (S a0)) rfl rfl) rfl) ?_
        refine OpsOk.cons rfl (.g (GOk.call rfl rfl cl24 rfl (watchbillref01_Name.ok h6) rfl) rfl) ?_
        refine OpsOk.cons rfl (.v (VOk.eqB (op := .eql) (p := t3) (q := t5) rfl (.inl rfl) Try.underlying4 rfl rfl) rfl) ?_
        refine OpsOk.cons rfl (.v (VOk.mv (d := (.v (.bool (t3 == t5)))) rfl rfl) rfl) ?_
        refine OpsOk.consI rfl rfl rfl (.one rfl) rfl (fun hw7 => (VOk.g (VOk.mv (d := (S a0)) rfl rfl))) ?_
        refine OpsOk.consI rfl rfl rfl (.one rfl) rfl (fun hw7 => (GOk.fr (fr' := [(14, (S a0))]) ⟨DLe.of_eq (cT hw7).symm, trivial⟩ (GOk.call rfl rfl cl25 rfl (utf_Trim.ok (ifT h9 hw7)) rfl))) ?_
        refine OpsOk.consI rfl rfl rfl (.one rfl) rfl (fun hw7 => (VOk.g (VOk.mv (d := (S a0)) rfl rfl))) ?_
        refine OpsOk.consI rfl rfl rfl (.one rfl) rfl (fun hw7 => (GOk.fr (fr' := [(16, (S a0))]) ⟨DLe.of_eq (cT hw7).symm, trivial⟩ (GOk.call rfl rfl cl26 rfl (watchbillref01_Trim.ok (ifT h11 hw7)) rfl))) ?_
        refine OpsOk.consI rfl rfl rfl (.one rfl) rfl (fun hw7 => (GOk.fr (fr' := [(15, (S t8)), (17, (S t10))]) ⟨DLe.of_eq (cT hw7).symm, DLe.of_eq (cT hw7).symm, trivial⟩ (VOk.g (VOk.strOp (op := .eql) (a := t8) (b := t10) rfl rfl rfl rfl)))) ?_
        refine OpsOk.cons rfl (.v (VOk.to (VOk.pickI (b := (t3 == t5)) (p := (t8 == t10)) (q := false) rfl rfl (fun hp12 => (cT (t_beq hp12))) (fun hp12 => rfl)) (pickAnd (t3 == t5) (t8 == t10))) rfl) ?_
        refine OpsOk.cons rfl (.v (VOk.mv (d := (.v (.bool ((t3 == t5) && (t8 == t10))))) rfl rfl) rfl) ?_
        refine OpsOk.consI rfl rfl rfl (.one rfl) rfl (fun hw13 => (VOk.g (VOk.mv (d := (S a0)) rfl rfl))) ?_
        refine OpsOk.consI rfl rfl rfl (.one rfl) rfl (fun hw13 => (GOk.fr (fr' := [(21, (S a0))]) ⟨DLe.of_eq (cT hw13).symm, trivial⟩ (GOk.call rfl rfl cl25 rfl (utf_Trim.ok (ifT h15 hw13)) rfl))) ?_
        refine OpsOk.consI rfl rfl rfl (.one rfl) rfl (fun hw13 => (GOk.fr (fr' := [(22, (S t14))]) ⟨DLe.of_eq (cT hw13).symm, trivial⟩ (GOk.call rfl rfl cl25 rfl (utf_Trim.ok (ifT h17 hw13)) rfl))) ?_
        refine OpsOk.consI rfl rfl rfl (.one rfl) rfl (fun hw13 => (VOk.g (VOk.mv (d := (S a0)) rfl rfl))) ?_
        refine OpsOk.consI rfl rfl rfl (.one rfl) rfl (fun hw13 => (GOk.fr (fr' := [(24, (S a0))]) ⟨DLe.of_eq (cT hw13).symm, trivial⟩ (GOk.call rfl rfl cl25 rfl (utf_Trim.ok (ifT h19 hw13)) rfl))) ?_
        refine OpsOk.consI rfl rfl rfl (.one rfl) rfl (fun hw13 => (GOk.fr (fr' := [(23, (S t16)), (25, (S t18))]) ⟨DLe.of_eq (cT hw13).symm, DLe.of_eq (cT hw13).symm, trivial⟩ (VOk.g (VOk.strOp (op := .eql) (a := t16) (b := t18) rfl rfl rfl rfl)))) ?_
        refine OpsOk.cons rfl (.v (VOk.to (VOk.pickI (b := ((t3 == t5) && (t8 == t10))) (p := (t16 == t18)) (q := false) rfl rfl (fun hp20 => (cT (t_beq hp20))) (fun hp20 => rfl)) (pickAnd ((t3 == t5) && (t8 == t10)) (t16 == t18))) rfl) ?_
        refine OpsOk.cons rfl (.v (VOk.asg (d := (.v (.bool (((t3 == t5) && (t8 == t10)) && (t16 == t18))))) rfl rfl) rfl) ?_
        exact .done (.mk ⟨.same _, trivial⟩ trivial)
      refine Ok.le (σ' := ⟨[(2, (.v (.bool (((t3 == t5) && (t8 == t10)) && (t16 == t18)))))], []⟩) (.mk ⟨.same _, trivial⟩ trivial) ?_
      refine Ok.ret ?_
      obtain rfl := Option.some.inj H
      exact ⟨.inl rfl, rfl, rfl⟩

/-! watchbill/watchbilllaw01.UtfGrows: function 8 -/
def watchbilllaw01_UtfGrows.l0 (k : Nat) (a0 : Str) : Nat → Int → Option Bool
  | 0, _ => none
  | m + 1, x6_20 => (if (decide (x6_20 < (a0.length : Int))) = true then (if (((decide (x6_20 > 0)) == true) = true → (0 : Int) ≤ 0 ∧ 0 ≤ x6_20 ∧ x6_20 ≤ (a0.length : Int)) then (((if ((decide (x6_20 > 0)) == true) = true then utf_Name k (sl a0 0 x6_20) else some default)).bind fun (t24 : Bool) => (if ((decide (x6_20 > 0)) && (!t24)) = true then some false else ((utf_Rune k a0 x6_20).bind fun (t27 : Int × Int) => (if (decide (t27.2 < 1)) = true then some false else watchbilllaw01_UtfGrows.l0 k a0 m (IntKind.i64.wrap (x6_20 + t27.2)))))) else none) else (if ([32, 9] : Str).length + a0.length ≤ 9223372036854775807 then (if (([32, 9] : Str) ++ a0).length + ([13, 10] : Str).length ≤ 9223372036854775807 then ((utf_Trim k ((([32, 9] : Str) ++ a0) ++ ([13, 10] : Str))).bind fun (t33 : Str) => (if (((t33 == a0) == true) = true → ([32] : Str).length + a0.length ≤ 9223372036854775807) then (((if ((t33 == a0) == true) = true then utf_Name k (([32] : Str) ++ a0) else some default)).bind fun (t37 : Bool) => (if ((((t33 == a0) && (!t37)) == true) = true → a0.length + ([58] : Str).length ≤ 9223372036854775807) then (((if (((t33 == a0) && (!t37)) == true) = true then utf_Name k (a0 ++ ([58] : Str)) else some default)).bind fun (t42 : Bool) => some (((t33 == a0) && (!t37)) && (!t42))) else none)) else none)) else none) else none))
def watchbilllaw01_UtfGrows (k : Nat) (a0 : Str) (a1 : Int) : Option Bool := ((watchbilllaw01_awake k).bind fun (t1 : Bool) => (if (!t1) = true then some false else (((if ((decide ((a0.length : Int) > 1000)) == false) = true then utf_Name k a0 else some default)).bind fun (t4 : Bool) => (if ((decide ((a0.length : Int) > 1000)) || (!t4)) = true then some true else ((utf_Put a1).bind fun (t7 : Str) => (if a0.length + t7.length ≤ 9223372036854775807 then ((utf_Name k (a0 ++ t7)).bind fun (t10 : Bool) => (((if ((decide (((a0 ++ t7).length : Int) ≤ 64)) == true) = true then utf_Part k a1 else some default)).bind fun (t13 : Bool) => (((if (((decide (((a0 ++ t7).length : Int) ≤ 64)) == true) && (t13 == false)) = true then utf_Put a1 else some default)).bind fun (t16 : Str) => (if (!(t10 == ((decide (((a0 ++ t7).length : Int) ≤ 64)) && (t13 || (t16 == ([] : Str)))))) = true then some false else watchbilllaw01_UtfGrows.l0 k a0 k 0)))) else none))))))
theorem watchbilllaw01_UtfGrows.ok {k : Nat} {a0 : Str} {a1 : Int} {r : Bool} (H : watchbilllaw01_UtfGrows k a0 a1 = some r) : Vx.Fn Try.prog 8 [(S a0), (.v (.int .i32 a1))] [] (.v (.bool r)) [] := by
  unfold watchbilllaw01_UtfGrows at H
  refine Vx.Fn.of_ok Try.func8 rfl (Nat.le_of_ble_eq_true rfl) ?_
  refine Ok.seq ?_
  refine Ok.region (σ' := ⟨[(0, (S a0)), (1, (.v (.int .i32 a1)))], []⟩) ?_ ?_
  · refine OpsOk.cons rfl (.v (VOk.asg (d := (.v (.bool false))) rfl rfl) rfl) ?_
    exact .done (.mk ⟨.same _, .same _, trivial⟩ trivial)
  refine Ok.seq ?_
  refine Ok.seq ?_
  obtain ⟨t1, h2, H⟩ := bindE H
  refine Ok.region (σ' := ⟨[(0, (S a0)), (1, (.v (.int .i32 a1))), (10, (.v (.bool (!t1))))], []⟩) ?_ ?_
  · refine OpsOk.cons rfl (.g (GOk.call rfl rfl cl9 rfl (watchbilllaw01_awake.ok h2) rfl) rfl) ?_
    refine OpsOk.cons rfl (.v (VOk.not (b := t1) rfl rfl) rfl) ?_
    exact .done (.mk ⟨.same _, .same _, .same _, trivial⟩ trivial)
  refine Ok.test (b := (!t1)) rfl (fun hb48 => ?_) (fun hb48 => ?_)
  · replace H := ifT H hb48
    refine Ok.seq ?_
    refine Ok.region (σ' := ⟨[(4, (.v (.bool false)))], []⟩) ?_ ?_
    · refine OpsOk.cons rfl (.v (VOk.asg (d := (.v (.bool false))) rfl rfl) rfl) ?_
      exact .done (.mk ⟨.same _, trivial⟩ trivial)
    refine Ok.le (σ' := ⟨[(4, (.v (.bool false)))], []⟩) (.mk ⟨.same _, trivial⟩ trivial) ?_
    refine Ok.ret ?_
    obtain rfl := Option.some.inj H
    exact ⟨.inl rfl, rfl, rfl⟩
  · replace H := ifF H hb48
    refine Ok.le (σ' := ⟨[(0, (S a0)), (1, (.v (.int .i32 a1)))], []⟩) (.mk ⟨.same _, .same _, trivial⟩ trivial) ?_
    refine Ok.skip ?_
    refine Ok.seq ?_
    refine Ok.seq ?_
    obtain ⟨t4, h5, H⟩ := bindE H
    refine Ok.region (σ' := ⟨[(0, (S a0)), (1, (.v (.int .i32 a1))), (18, (.v (.bool ((decide ((a0.length : Int) > 1000)) || (!t4)))))], []⟩) ?_ ?_
    · refine OpsOk.cons rfl (.v (VOk.mv (d := (S a0)) rfl rfl) rfl) ?_
      refine OpsOk.cons rfl (.v (VOk.lenStr (s := a0) rfl Try.underlying9 rfl) rfl) ?_
      refine OpsOk.cons rfl (.v (VOk.arith (op := .gtr) (k := .i64) (a := (a0.length : Int)) (b := 1000) rfl rfl rfl rfl) rfl) ?_
      refine OpsOk.cons rfl (.v (VOk.mv (d := (.v (.bool (decide ((a0.length : Int) > 1000))))) rfl rfl) rfl) ?_
      refine OpsOk.consI rfl rfl rfl (.one rfl) rfl (fun hw3 => (VOk.g (VOk.mv (d := (S a0)) rfl rfl))) ?_
      refine OpsOk.consI rfl rfl rfl (.one rfl) rfl (fun hw3 => (GOk.fr (fr' := [(15, (S a0))]) ⟨DLe.of_eq (cT hw3).symm, trivial⟩ (GOk.call rfl rfl cl23 rfl (utf_Name.ok (ifT h5 hw3)) rfl))) ?_
      refine OpsOk.consI rfl rfl rfl (.one rfl) rfl (fun hw3 => (GOk.fr (fr' := [(16, (.v (.bool t4)))]) ⟨DLe.of_eq (cT hw3).symm, trivial⟩ (VOk.g (VOk.not (b := t4) rfl rfl)))) ?_
      refine OpsOk.cons rfl (.v (VOk.to (VOk.pickI (b := (decide ((a0.length : Int) > 1000))) (p := true) (q := (!t4)) rfl rfl (fun hp6 => rfl) (fun hp6 => (cT (f_beq hp6)))) (pickOr (decide ((a0.length : Int) > 1000)) (!t4))) rfl) ?_
      exact .done (.mk ⟨.same _, .same _, .same _, trivial⟩ trivial)
    refine Ok.test (b := ((decide ((a0.length : Int) > 1000)) || (!t4))) rfl (fun hb47 => ?_) (fun hb47 => ?_)
    · replace H := ifT H hb47
      refine Ok.seq ?_
      refine Ok.region (σ' := ⟨[(4, (.v (.bool true)))], []⟩) ?_ ?_
      · refine OpsOk.cons rfl (.v (VOk.asg (d := (.v (.bool true))) rfl rfl) rfl) ?_
        exact .done (.mk ⟨.same _, trivial⟩ trivial)
      refine Ok.le (σ' := ⟨[(4, (.v (.bool true)))], []⟩) (.mk ⟨.same _, trivial⟩ trivial) ?_
      refine Ok.ret ?_
      obtain rfl := Option.some.inj H
      exact ⟨.inl rfl, rfl, rfl⟩
    · replace H := ifF H hb47
      refine Ok.le (σ' := ⟨[(0, (S a0)), (1, (.v (.int .i32 a1)))], []⟩) (.mk ⟨.same _, .same _, trivial⟩ trivial) ?_
      refine Ok.skip ?_
      refine Ok.seq ?_
      obtain ⟨t7, h8, H⟩ := bindE H
      obtain ⟨c9, H⟩ := assertE H
      refine Ok.region (σ' := ⟨[(0, (S a0)), (1, (.v (.int .i32 a1))), (5, (S (a0 ++ t7)))], []⟩) ?_ ?_
      · refine OpsOk.cons rfl (.v (VOk.mv (d := (S a0)) rfl rfl) rfl) ?_
        refine OpsOk.cons rfl (.v (VOk.mv (d := (.v (.int .i32 a1))) rfl rfl) rfl) ?_
        refine OpsOk.cons rfl (.g (GOk.call rfl rfl cl12 rfl (utf_Put.ok h8) rfl) rfl) ?_
        refine OpsOk.cons rfl (.v (VOk.cat (a := a0) (b := t7) rfl rfl rfl c9) rfl) ?_
        refine OpsOk.cons rfl (.v (VOk.asg (d := (S (a0 ++ t7))) rfl rfl) rfl) ?_
        exact .done (.mk ⟨.same _, .same _, .same _, trivial⟩ trivial)
      refine Ok.seq ?_
      refine Ok.seq ?_
      obtain ⟨t10, h11, H⟩ := bindE H
      obtain ⟨t13, h14, H⟩ := bindE H
      obtain ⟨t16, h17, H⟩ := bindE H
      refine Ok.region (σ' := ⟨[(0, (S a0)), (37, (.v (.bool (!(t10 == ((decide (((a0 ++ t7).length : Int) ≤ 64)) && (t13 || (t16 == ([] : Str)))))))))], []⟩) ?_ ?_
      · refine OpsOk.cons rfl (.v (VOk.mv (d := (S (a0 ++ t7))) rfl rfl) rfl) ?_
        refine OpsOk.cons rfl (.g (GOk.call rfl rfl cl23 rfl (utf_Name.ok h11) rfl) rfl) ?_
        refine OpsOk.cons rfl (.v (VOk.mv (d := (S (a0 ++ t7))) rfl rfl) rfl) ?_
        refine OpsOk.cons rfl (.v (VOk.lenStr (s := (a0 ++ t7)) rfl Try.underlying9 rfl) rfl) ?_
        refine OpsOk.cons rfl (.v (VOk.arith (op := .leq) (k := .i64) (a := ((a0 ++ t7).length : Int)) (b := 64) rfl rfl rfl rfl) rfl) ?_
        refine OpsOk.cons rfl (.v (VOk.mv (d := (.v (.bool (decide (((a0 ++ t7).length : Int) ≤ 64))))) rfl rfl) rfl) ?_
        refine OpsOk.consI rfl rfl rfl (.one rfl) rfl (fun hw12 => (VOk.g (VOk.mv (d := (.v (.int .i32 a1))) rfl rfl))) ?_
        refine OpsOk.consI rfl rfl rfl (.one rfl) rfl (fun hw12 => (GOk.fr (fr' := [(29, (.v (.int .i32 a1)))]) ⟨DLe.of_eq (cT hw12).symm, trivial⟩ (GOk.call rfl rfl cl19 rfl (utf_Part.ok (ifT h14 hw12)) rfl))) ?_
        refine OpsOk.consI rfl rfl rfl (.one rfl) rfl (fun hw12 => (GOk.fr (fr' := [(30, (.v (.bool t13)))]) ⟨DLe.of_eq (cT hw12).symm, trivial⟩ (VOk.g (VOk.mv (d := (.v (.bool t13))) rfl rfl)))) ?_
        refine OpsOk.consI rfl rfl rfl (.two rfl) rfl (fun hw15 => (VOk.g (VOk.mv (d := (.v (.int .i32 a1))) rfl rfl))) ?_
        refine OpsOk.consI rfl rfl rfl (.two rfl) rfl (fun hw15 => (GOk.fr (fr' := [(32, (.v (.int .i32 a1)))]) ⟨DLe.of_eq (cT hw15).symm, trivial⟩ (GOk.call rfl rfl cl12 rfl (utf_Put.ok (ifT h17 hw15)) rfl))) ?_
        refine OpsOk.consI rfl rfl rfl (.two rfl) rfl (fun hw15 => (GOk.fr (fr' := [(33, (S t16))]) ⟨DLe.of_eq (cT hw15).symm, trivial⟩ (VOk.g (VOk.strOp (op := .eql) (a := t16) (b := ([] : Str)) rfl rfl rfl rfl)))) ?_
        refine OpsOk.consI rfl rfl rfl (.one rfl) rfl (fun hw12 => (VOk.g (VOk.to (VOk.pickI (b := t13) (p := true) (q := (t16 == ([] : Str))) rfl (cT hw12) (fun hp18 => rfl) (fun hp18 => (cT (and_i hw12 (f_beq hp18))))) (pickOr t13 (t16 == ([] : Str)))))) ?_
        refine OpsOk.cons rfl (.v (VOk.to (VOk.pickI (b := (decide (((a0 ++ t7).length : Int) ≤ 64))) (p := (t13 || (t16 == ([] : Str)))) (q := false) rfl rfl (fun hp19 => (cT (t_beq hp19))) (fun hp19 => rfl)) (pickAnd (decide (((a0 ++ t7).length : Int) ≤ 64)) (t13 || (t16 == ([] : Str))))) rfl) ?_
        refine OpsOk.cons rfl (.v (VOk.eqB (op := .neq) (p := t10) (q := ((decide (((a0 ++ t7).length : Int) ≤ 64)) && (t13 || (t16 == ([] : Str))))) rfl (.inr rfl) Try.underlying4 rfl rfl) rfl) ?_
        exact .done (.mk ⟨.same _, .same _, trivial⟩ trivial)
      refine Ok.test (b := (!(t10 == ((decide (((a0 ++ t7).length : Int) ≤ 64)) && (t13 || (t16 == ([] : Str))))))) rfl (fun hb46 => ?_) (fun hb46 => ?_)
      · replace H := ifT H hb46
        refine Ok.seq ?_
        refine Ok.region (σ' := ⟨[(4, (.v (.bool false)))], []⟩) ?_ ?_
        · refine OpsOk.cons rfl (.v (VOk.asg (d := (.v (.bool false))) rfl rfl) rfl) ?_
          exact .done (.mk ⟨.same _, trivial⟩ trivial)
        refine Ok.le (σ' := ⟨[(4, (.v (.bool false)))], []⟩) (.mk ⟨.same _, trivial⟩ trivial) ?_
        refine Ok.ret ?_
        obtain rfl := Option.some.inj H
        exact ⟨.inl rfl, rfl, rfl⟩
      · replace H := ifF H hb46
        refine Ok.le (σ' := ⟨[(0, (S a0))], []⟩) (.mk ⟨.same _, trivial⟩ trivial) ?_
        refine Ok.skip ?_
        refine Ok.seq ?_
        refine Ok.region (σ' := ⟨[(0, (S a0)), (6, (.v (.int .i64 0)))], []⟩) ?_ ?_
        · refine OpsOk.cons rfl (.v (VOk.asg (d := (.v (.int .i64 0))) rfl rfl) rfl) ?_
          exact .done (.mk ⟨.same _, .same _, trivial⟩ trivial)
        refine Ok.seq ?_
        refine Ok.block ?_
        refine Ok.le (σ' := ⟨[(0, (S a0)), (6, (.v (.int .i64 0)))], []⟩) (.mk ⟨.same _, .same _, trivial⟩ trivial) ?_
        refine Ok.loop (fun m σ => ∃ (x6_20 : Int), σ = ⟨[(0, (S a0)), (6, (.v (.int .i64 x6_20)))], []⟩ ∧ watchbilllaw01_UtfGrows.l0 k a0 m x6_20 = some r) k ⟨0, rfl, H⟩ ?_
        rintro m σ ⟨x6_20, rfl, H⟩
        cases m with
        | zero => exact absurd H (by simp [watchbilllaw01_UtfGrows.l0])
        | succ m =>
          unfold watchbilllaw01_UtfGrows.l0 at H
          refine Ok.seq ?_
          refine Ok.seq ?_
          refine Ok.region (σ' := ⟨[(0, (S a0)), (6, (.v (.int .i64 x6_20))), (41, (.v (.bool (decide (x6_20 < (a0.length : Int))))))], []⟩) ?_ ?_
          · refine OpsOk.cons rfl (.v (VOk.mv (d := (.v (.int .i64 x6_20))) rfl rfl) rfl) ?_
            refine OpsOk.cons rfl (.v (VOk.mv (d := (S a0)) rfl rfl) rfl) ?_
            refine OpsOk.cons rfl (.v (VOk.lenStr (s := a0) rfl Try.underlying9 rfl) rfl) ?_
            refine OpsOk.cons rfl (.v (VOk.arith (op := .lss) (k := .i64) (a := x6_20) (b := (a0.length : Int)) rfl rfl rfl rfl) rfl) ?_
            exact .done (.mk ⟨.same _, .same _, .same _, trivial⟩ trivial)
          refine Ok.test (b := (decide (x6_20 < (a0.length : Int)))) rfl (fun hb45 => ?_) (fun hb45 => ?_)
          · replace H := ifT H hb45
            refine Ok.le (σ' := ⟨[(0, (S a0)), (6, (.v (.int .i64 x6_20)))], []⟩) (.mk ⟨.same _, .same _, trivial⟩ trivial) ?_
            refine Ok.skip ?_
            refine Ok.block ?_
            refine Ok.seq ?_
            refine Ok.seq ?_
            obtain ⟨c23, H⟩ := assertE H
            obtain ⟨t24, h25, H⟩ := bindE H
            refine Ok.region (σ' := ⟨[(0, (S a0)), (6, (.v (.int .i64 x6_20))), (50, (.v (.bool ((decide (x6_20 > 0)) && (!t24)))))], []⟩) ?_ ?_
            · refine OpsOk.cons rfl (.v (VOk.mv (d := (.v (.int .i64 x6_20))) rfl rfl) rfl) ?_
              refine OpsOk.cons rfl (.v (VOk.arith (op := .gtr) (k := .i64) (a := x6_20) (b := 0) rfl rfl rfl rfl) rfl) ?_
              refine OpsOk.cons rfl (.v (VOk.mv (d := (.v (.bool (decide (x6_20 > 0))))) rfl rfl) rfl) ?_
              refine OpsOk.consI rfl rfl rfl (.one rfl) rfl (fun hw22 => (VOk.g (VOk.mv (d := (S a0)) rfl rfl))) ?_
              refine OpsOk.consI rfl rfl rfl (.one rfl) rfl (fun hw22 => (VOk.g (VOk.mv (d := (.v (.int .i64 x6_20))) rfl rfl))) ?_
              refine OpsOk.consI rfl rfl rfl (.one rfl) rfl (fun hw22 => (GOk.fr (fr' := [(45, (S a0)), (46, (.v (.int .i64 x6_20)))]) ⟨DLe.of_eq (cT hw22).symm, DLe.of_eq (cT hw22).symm, trivial⟩ (VOk.g (VOk.sliceStr (s := a0) (l := 0) (h := x6_20) rfl Try.underlying9 rfl rfl rfl (c23 hw22))))) ?_
              refine OpsOk.consI rfl rfl rfl (.one rfl) rfl (fun hw22 => (GOk.fr (fr' := [(47, (S (sl a0 0 x6_20)))]) ⟨DLe.of_eq (cT hw22).symm, trivial⟩ (GOk.call rfl rfl cl23 rfl (utf_Name.ok (ifT h25 hw22)) rfl))) ?_
              refine OpsOk.consI rfl rfl rfl (.one rfl) rfl (fun hw22 => (GOk.fr (fr' := [(48, (.v (.bool t24)))]) ⟨DLe.of_eq (cT hw22).symm, trivial⟩ (VOk.g (VOk.not (b := t24) rfl rfl)))) ?_
              refine OpsOk.cons rfl (.v (VOk.to (VOk.pickI (b := (decide (x6_20 > 0))) (p := (!t24)) (q := false) rfl rfl (fun hp26 => (cT (t_beq hp26))) (fun hp26 => rfl)) (pickAnd (decide (x6_20 > 0)) (!t24))) rfl) ?_
              exact .done (.mk ⟨.same _, .same _, .same _, trivial⟩ trivial)
            refine Ok.test (b := ((decide (x6_20 > 0)) && (!t24))) rfl (fun hb30 => ?_) (fun hb30 => ?_)
            · replace H := ifT H hb30
              refine Ok.seq ?_
              refine Ok.region (σ' := ⟨[(4, (.v (.bool false)))], []⟩) ?_ ?_
              · refine OpsOk.cons rfl (.v (VOk.asg (d := (.v (.bool false))) rfl rfl) rfl) ?_
                exact .done (.mk ⟨.same _, trivial⟩ trivial)
              refine Ok.le (σ' := ⟨[(4, (.v (.bool false)))], []⟩) (.mk ⟨.same _, trivial⟩ trivial) ?_
              refine Ok.ret ?_
              obtain rfl := Option.some.inj H
              exact ⟨.inl rfl, rfl, rfl⟩
            · replace H := ifF H hb30
              refine Ok.le (σ' := ⟨[(0, (S a0)), (6, (.v (.int .i64 x6_20)))], []⟩) (.mk ⟨.same _, .same _, trivial⟩ trivial) ?_
              refine Ok.skip ?_
              refine Ok.seq ?_
              obtain ⟨t27, h28, H⟩ := bindE H
              refine Ok.region (σ' := ⟨[(0, (S a0)), (6, (.v (.int .i64 x6_20))), (8, (.v (.int .i64 t27.2)))], []⟩) ?_ ?_
              · refine OpsOk.cons rfl (.v (VOk.mv (d := (S a0)) rfl rfl) rfl) ?_
                refine OpsOk.cons rfl (.v (VOk.mv (d := (.v (.int .i64 x6_20))) rfl rfl) rfl) ?_
                refine OpsOk.cons rfl (.g (GOk.call rfl rfl cl10 rfl (utf_Rune.ok h28) rfl) rfl) ?_
                refine OpsOk.cons rfl (.v (VOk.mv (d := (.tup [(.v (.int .i32 t27.1)), (.v (.int .i64 t27.2))])) rfl rfl) rfl) ?_
                refine OpsOk.cons rfl (.v (VOk.extract (d := (.v (.int .i32 t27.1))) rfl rfl rfl) rfl) ?_
                refine OpsOk.cons rfl (.v (VOk.extract (d := (.v (.int .i64 t27.2))) rfl rfl rfl) rfl) ?_
                refine OpsOk.cons rfl (.v (VOk.asg (d := (.v (.int .i32 t27.1))) rfl rfl) rfl) ?_
                refine OpsOk.cons rfl (.v (VOk.asg (d := (.v (.int .i64 t27.2))) rfl rfl) rfl) ?_
                exact .done (.mk ⟨.same _, .same _, .same _, trivial⟩ trivial)
              refine Ok.seq ?_
              refine Ok.seq ?_
              refine Ok.region (σ' := ⟨[(0, (S a0)), (6, (.v (.int .i64 x6_20))), (8, (.v (.int .i64 t27.2))), (58, (.v (.bool (decide (t27.2 < 1)))))], []⟩) ?_ ?_
              · refine OpsOk.cons rfl (.v (VOk.mv (d := (.v (.int .i64 t27.2))) rfl rfl) rfl) ?_
                refine OpsOk.cons rfl (.v (VOk.arith (op := .lss) (k := .i64) (a := t27.2) (b := 1) rfl rfl rfl rfl) rfl) ?_
                exact .done (.mk ⟨.same _, .same _, .same _, .same _, trivial⟩ trivial)
              refine Ok.test (b := (decide (t27.2 < 1))) rfl (fun hb29 => ?_) (fun hb29 => ?_)
              · replace H := ifT H hb29
                refine Ok.seq ?_
                refine Ok.region (σ' := ⟨[(4, (.v (.bool false)))], []⟩) ?_ ?_
                · refine OpsOk.cons rfl (.v (VOk.asg (d := (.v (.bool false))) rfl rfl) rfl) ?_
                  exact .done (.mk ⟨.same _, trivial⟩ trivial)
                refine Ok.le (σ' := ⟨[(4, (.v (.bool false)))], []⟩) (.mk ⟨.same _, trivial⟩ trivial) ?_
                refine Ok.ret ?_
                obtain rfl := Option.some.inj H
                exact ⟨.inl rfl, rfl, rfl⟩
              · replace H := ifF H hb29
                refine Ok.le (σ' := ⟨[(0, (S a0)), (6, (.v (.int .i64 x6_20))), (8, (.v (.int .i64 t27.2)))], []⟩) (.mk ⟨.same _, .same _, .same _, trivial⟩ trivial) ?_
                refine Ok.skip ?_
                refine Ok.region (σ' := ⟨[(0, (S a0)), (6, (.v (.int .i64 (IntKind.i64.wrap (x6_20 + t27.2)))))], []⟩) ?_ ?_
                · refine OpsOk.cons rfl (.v (VOk.mv (d := (.v (.int .i64 x6_20))) rfl rfl) rfl) ?_
                  refine OpsOk.cons rfl (.v (VOk.mv (d := (.v (.int .i64 t27.2))) rfl rfl) rfl) ?_
                  refine OpsOk.cons rfl (.v (VOk.arith (op := .add) (k := .i64) (a := x6_20) (b := t27.2) rfl rfl rfl rfl) rfl) ?_
                  refine OpsOk.cons rfl (.v (VOk.asg (d := (.v (.int .i64 (IntKind.i64.wrap (x6_20 + t27.2))))) rfl rfl) rfl) ?_
                  exact .done (.mk ⟨.same _, .same _, trivial⟩ trivial)
                exact ⟨m, Nat.lt_succ_self m, (IntKind.i64.wrap (x6_20 + t27.2)), rfl, H⟩
          · replace H := ifF H hb45
            refine Ok.le (σ' := ⟨[(0, (S a0))], []⟩) (.mk ⟨.same _, trivial⟩ trivial) ?_
            refine Ok.exit ?_
            refine Ok.seq ?_
            obtain ⟨c31, H⟩ := assertE H
            obtain ⟨c32, H⟩ := assertE H
            obtain ⟨t33, h34, H⟩ := bindE H
            obtain ⟨c36, H⟩ := assertE H
            obtain ⟨t37, h38, H⟩ := bindE H
            obtain ⟨c41, H⟩ := assertE H
            obtain ⟨t42, h43, H⟩ := bindE H
            refine Ok.region (σ' := ⟨[(4, (.v (.bool (((t33 == a0) && (!t37)) && (!t42)))))], []⟩) ?_ ?_
            · refine OpsOk.cons rfl (.v (VOk.mv (d := (S a0)) rfl rfl) rfl) ?_
              refine OpsOk.cons rfl (.v (VOk.cat (a := ([32, 9] : Str)) (b := a0) rfl rfl rfl c31) rfl) ?_
              refine OpsOk.cons rfl (.v (VOk.cat (a := (([32, 9] : Str) ++ a0)) (b := ([13, 10] : Str)) rfl rfl rfl c32) rfl) ?_
              refine OpsOk.cons rfl (.g (GOk.call rfl rfl cl25 rfl (utf_Trim.ok h34) rfl) rfl) ?_
              refine OpsOk.cons rfl (.v (VOk.mv (d := (S a0)) rfl rfl) rfl) ?_
              refine OpsOk.cons rfl (.v (VOk.strOp (op := .eql) (a := t33) (b := a0) rfl rfl rfl rfl) rfl) ?_
              refine OpsOk.cons rfl (.v (VOk.mv (d := (.v (.bool (t33 == a0)))) rfl rfl) rfl) ?_
              refine OpsOk.consI rfl rfl rfl (.one rfl) rfl (fun hw35 => (VOk.g (VOk.mv (d := (S a0)) rfl rfl))) ?_
              refine OpsOk.consI rfl rfl rfl (.one rfl) rfl (fun hw35 => (GOk.fr (fr' := [(69, (S a0))]) ⟨DLe.of_eq (cT hw35).symm, trivial⟩ (VOk.g (VOk.cat (a := ([32] : Str)) (b := a0) rfl rfl rfl (c36 hw35))))) ?_
              refine OpsOk.consI rfl rfl rfl (.one rfl) rfl (fun hw35 => (GOk.fr (fr' := [(70, (S (([32] : Str) ++ a0)))]) ⟨DLe.of_eq (cT hw35).symm, trivial⟩ (GOk.call rfl rfl cl23 rfl (utf_Name.ok (ifT h38 hw35)) rfl))) ?_
              refine OpsOk.consI rfl rfl rfl (.one rfl) rfl (fun hw35 => (GOk.fr (fr' := [(71, (.v (.bool t37)))]) ⟨DLe.of_eq (cT hw35).symm, trivial⟩ (VOk.g (VOk.not (b := t37) rfl rfl)))) ?_
              refine OpsOk.cons rfl (.v (VOk.to (VOk.pickI (b := (t33 == a0)) (p := (!t37)) (q := false) rfl rfl (fun hp39 => (cT (t_beq hp39))) (fun hp39 => rfl)) (pickAnd (t33 == a0) (!t37))) rfl) ?_
              refine OpsOk.cons rfl (.v (VOk.mv (d := (.v (.bool ((t33 == a0) && (!t37))))) rfl rfl) rfl) ?_
              refine OpsOk.consI rfl rfl rfl (.one rfl) rfl (fun hw40 => (VOk.g (VOk.mv (d := (S a0)) rfl rfl))) ?_
              refine OpsOk.consI rfl rfl rfl (.one rfl) rfl (fun hw40 => (GOk.fr (fr' := [(75, (S a0))]) ⟨DLe.of_eq (cT hw40).symm, trivial⟩ (VOk.g (VOk.cat (a := a0) (b := ([58] : Str)) rfl rfl rfl (c41 hw40))))) ?_
              refine OpsOk.consI rfl rfl rfl (.one rfl) rfl (fun hw40 => (GOk.fr (fr' := [(76, (S (a0 ++ ([58] : Str))))]) ⟨DLe.of_eq (cT hw40).symm, trivial⟩ (GOk.call rfl rfl cl23 rfl (utf_Name.ok (ifT h43 hw40)) rfl))) ?_
              refine OpsOk.consI rfl rfl rfl (.one rfl) rfl (fun hw40 => (GOk.fr (fr' := [(77, (.v (.bool t42)))]) ⟨DLe.of_eq (cT hw40).symm, trivial⟩ (VOk.g (VOk.not (b := t42) rfl rfl)))) ?_
              refine OpsOk.cons rfl (.v (VOk.to (VOk.pickI (b := ((t33 == a0) && (!t37))) (p := (!t42)) (q := false) rfl rfl (fun hp44 => (cT (t_beq hp44))) (fun hp44 => rfl)) (pickAnd ((t33 == a0) && (!t37)) (!t42))) rfl) ?_
              refine OpsOk.cons rfl (.v (VOk.asg (d := (.v (.bool (((t33 == a0) && (!t37)) && (!t42))))) rfl rfl) rfl) ?_
              exact .done (.mk ⟨.same _, trivial⟩ trivial)
            refine Ok.le (σ' := ⟨[(4, (.v (.bool (((t33 == a0) && (!t37)) && (!t42)))))], []⟩) (.mk ⟨.same _, trivial⟩ trivial) ?_
            refine Ok.ret ?_
            obtain rfl := Option.some.inj H
            exact ⟨.inl rfl, rfl, rfl⟩

end Go.Proofs.Ytnabecgfaecbmaa.Sh
