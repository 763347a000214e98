import Derived.Test.YthiopccchgkjcaaProg
import Derived.Test.YthiopccchgkjcaaSha
namespace Go.Proofs.Ythiopccchgkjcaa.Sh
open Go Go.RowKit Go.Proofs.Vx
set_option linter.unusedVariables false

set_option maxRecDepth 100000
set_option maxHeartbeats 1000000
/-! watchbill/watchbillref02.Find: function 17 -/
def watchbillref02_Find.l0 (k : Nat) (a0 : List T_api_Bind) (a1 : Str) : Nat → Str → Bool → Int → Option (Str × Bool)
  | 0, _, _, _ => none
  | m7 + 1, x6_1, x7_2, x8_3 => (if (decide (x8_3 < (a0.length : Int))) = true then (if (0 : Int) ≤ x8_3 ∧ x8_3 < (a0.length : Int) then (if (((rd a0 x8_3).Prefix) == a1) = true then (if (0 : Int) ≤ x8_3 ∧ x8_3 < (a0.length : Int) then watchbillref02_Find.l0 k a0 a1 m7 ((rd a0 x8_3).Space) true (IntKind.i64.wrap (x8_3 + 1)) else none) else watchbillref02_Find.l0 k a0 a1 m7 x6_1 x7_2 (IntKind.i64.wrap (x8_3 + 1))) else none) else some (x6_1, x7_2))
def watchbillref02_Find (k : Nat) (a0 : List T_api_Bind) (a1 : Str) : Option (Str × Bool) := (if (a1 == ([120, 109, 108] : Str)) = true then some (([104, 116, 116, 112, 58, 47, 47, 119, 119, 119, 46, 119, 51, 46, 111, 114, 103, 47, 88, 77, 76, 47, 49, 57, 57, 56, 47, 110, 97, 109, 101, 115, 112, 97, 99, 101] : Str), true) else watchbillref02_Find.l0 k a0 a1 k ([] : Str) (a1 == ([] : Str)) 0)
theorem watchbillref02_Find.ok {k : Nat} {a0 : List T_api_Bind} {a1 : Str} {r : Str × Bool} (H : watchbillref02_Find k a0 a1 = some r) : Vx.Fn Try.prog 17 [(L 2 e_api_Bind a0), (S a1)] [] (.tup [(S r.1), (.v (.bool r.2))]) [] := by
  unfold watchbillref02_Find at H
  refine Vx.Fn.of_okR Try.func17 rfl (Nat.le_of_ble_eq_true rfl) ?_
  refine Ok.seq ?_
  refine Ok.region (σ' := ⟨[(0, (L 2 e_api_Bind a0)), (1, (S a1))], []⟩) ?_ ?_
  · refine .cv (VOk.asg (d := (S ([] : Str))) rfl rfl) rfl rfl ?_
    refine .cv (VOk.asg (d := (.v (.bool false))) rfl rfl) rfl rfl ?_
    exact .done (.rf rfl rfl)
  refine Ok.seq ?_
  refine Ok.seq ?_
  refine Ok.region (σ' := ⟨[(0, (L 2 e_api_Bind a0)), (1, (S a1)), (10, (.v (.bool (a1 == ([120, 109, 108] : Str)))))], []⟩) ?_ ?_
  · refine .cv (VOk.mv (d := (S a1)) rfl rfl) rfl rfl ?_
    refine .cv (VOk.strOp (op := .eql) (a := a1) (b := ([120, 109, 108] : Str)) rfl rfl rfl rfl) rfl rfl ?_
    exact .done (.rf rfl rfl)
  refine Ok.test (b := (a1 == ([120, 109, 108] : Str))) rfl (fun hb12 => ?_) (fun hb12 => ?_)
  · replace H := ifT H hb12
    refine Ok.seq ?_
    refine Ok.region (σ' := ⟨[(4, (S ([104, 116, 116, 112, 58, 47, 47, 119, 119, 119, 46, 119, 51, 46, 111, 114, 103, 47, 88, 77, 76, 47, 49, 57, 57, 56, 47, 110, 97, 109, 101, 115, 112, 97, 99, 101] : Str))), (5, (.v (.bool true)))], []⟩) ?_ ?_
    · refine .cv (VOk.asg (d := (S ([104, 116, 116, 112, 58, 47, 47, 119, 119, 119, 46, 119, 51, 46, 111, 114, 103, 47, 88, 77, 76, 47, 49, 57, 57, 56, 47, 110, 97, 109, 101, 115, 112, 97, 99, 101] : Str))) rfl rfl) rfl rfl ?_
      refine .cv (VOk.asg (d := (.v (.bool true))) rfl rfl) rfl rfl ?_
      exact .done (.rf rfl rfl)
    refine Ok.ret ?_
    obtain rfl := Option.some.inj H
    exact ⟨.inl rfl, ⟨_, (.cons (.tmp rfl) (.cons (.tmp rfl) .nil)), rfl⟩, trivial⟩
  · replace H := ifF H hb12
    refine Ok.skip ?_
    refine Ok.seq ?_
    refine Ok.region (σ' := ⟨[(0, (L 2 e_api_Bind a0)), (1, (S a1)), (6, (S ([] : Str)))], []⟩) ?_ ?_
    · refine .cv (VOk.asg (d := (S ([] : Str))) rfl rfl) rfl rfl ?_
      exact .done (.rf rfl rfl)
    refine Ok.seq ?_
    refine Ok.region (σ' := ⟨[(0, (L 2 e_api_Bind a0)), (1, (S a1)), (6, (S ([] : Str))), (7, (.v (.bool (a1 == ([] : Str)))))], []⟩) ?_ ?_
    · refine .cv (VOk.mv (d := (S a1)) rfl rfl) rfl rfl ?_
      refine .cv (VOk.strOp (op := .eql) (a := a1) (b := ([] : Str)) rfl rfl rfl rfl) rfl rfl ?_
      refine .cv (VOk.asg (d := (.v (.bool (a1 == ([] : Str))))) rfl rfl) rfl rfl ?_
      exact .done (.rf rfl rfl)
    refine Ok.seq ?_
    refine Ok.seq ?_
    refine Ok.region (σ' := ⟨[(0, (L 2 e_api_Bind a0)), (1, (S a1)), (6, (S ([] : Str))), (7, (.v (.bool (a1 == ([] : Str))))), (8, (.v (.int .i64 0)))], []⟩) ?_ ?_
    · refine .cv (VOk.asg (d := (.v (.int .i64 0))) rfl rfl) rfl rfl ?_
      exact .done (.rf rfl rfl)
    refine Ok.block ?_
    refine Ok.le (σ' := ⟨[(0, (L 2 e_api_Bind a0)), (1, (S a1)), (6, (S ([] : Str))), (7, (.v (.bool (a1 == ([] : Str))))), (8, (.v (.int .i64 0)))], []⟩) (.rf rfl rfl) ?_
    refine Ok.loop (fun m7 σ => ∃ (x6_1 : Str) (x7_2 : Bool) (x8_3 : Int), σ = ⟨[(0, (L 2 e_api_Bind a0)), (1, (S a1)), (6, (S x6_1)), (7, (.v (.bool x7_2))), (8, (.v (.int .i64 x8_3)))], []⟩ ∧ watchbillref02_Find.l0 k a0 a1 m7 x6_1 x7_2 x8_3 = some r) k ⟨([] : Str), (a1 == ([] : Str)), 0, rfl, H⟩ ?_
    rintro m7 σ ⟨x6_1, x7_2, x8_3, rfl, H⟩
    cases m7 with
    | zero => exact absurd H (by simp [watchbillref02_Find.l0])
    | succ m7 =>
      unfold watchbillref02_Find.l0 at H
      refine Ok.seq ?_
      refine Ok.seq ?_
      refine Ok.region (σ' := ⟨[(0, (L 2 e_api_Bind a0)), (1, (S a1)), (6, (S x6_1)), (7, (.v (.bool x7_2))), (8, (.v (.int .i64 x8_3))), (16, (.v (.bool (decide (x8_3 < (a0.length : Int))))))], []⟩) ?_ ?_
      · refine .cv (VOk.mv (d := (.v (.int .i64 x8_3))) rfl rfl) rfl rfl ?_
        refine .cv (VOk.mv (d := (L 2 e_api_Bind a0)) rfl rfl) rfl rfl ?_
        refine .cv (VOk.lenL (e := e_api_Bind) (xs := a0) rfl Try.underlying26 rfl) rfl rfl ?_
        refine .cv (VOk.arith (op := .lss) (k := .i64) (a := x8_3) (b := (a0.length : Int)) rfl rfl rfl rfl) rfl rfl ?_
        exact .done (.rf rfl rfl)
      refine Ok.test (b := (decide (x8_3 < (a0.length : Int)))) rfl (fun hb11 => ?_) (fun hb11 => ?_)
      · replace H := ifT H hb11
        refine Ok.skip ?_
        refine Ok.seq ?_
        refine Ok.block ?_
        refine Ok.seq ?_
        obtain ⟨c8, H⟩ := assertE H
        refine Ok.region (σ' := ⟨[(0, (L 2 e_api_Bind a0)), (1, (S a1)), (6, (S x6_1)), (7, (.v (.bool x7_2))), (8, (.v (.int .i64 x8_3))), (25, (.v (.bool (((rd a0 x8_3).Prefix) == a1))))], []⟩) ?_ ?_
        · refine .cv (VOk.mv (d := (L 2 e_api_Bind a0)) rfl rfl) rfl rfl ?_
          refine .cv (VOk.mv (d := (.v (.int .i64 x8_3))) rfl rfl) rfl rfl ?_
          refine .cv (VOk.indexL (sz := 2) (e := e_api_Bind) (xs := a0) (i := x8_3) rfl Try.underlying26 sz35 rfl rfl c8) rfl rfl ?_
          refine .cv (VOk.to (VOk.fieldFp rfl Try.underlying35 rfl sz9 rfl) rfl) rfl rfl ?_
          refine .cv (VOk.loadFp (d := (S ((rd a0 x8_3).Prefix))) rfl Try.underlying9 rfl rfl rfl) rfl rfl ?_
          refine .cv (VOk.mv (d := (S a1)) rfl rfl) rfl rfl ?_
          refine .cv (VOk.strOp (op := .eql) (a := (rd a0 x8_3).Prefix) (b := a1) rfl rfl rfl rfl) rfl rfl ?_
          exact .done (.rf rfl rfl)
        refine Ok.test (b := (((rd a0 x8_3).Prefix) == a1)) rfl (fun hb10 => ?_) (fun hb10 => ?_)
        · replace H := ifT H hb10
          refine Ok.seq ?_
          obtain ⟨c9, H⟩ := assertE H
          refine Ok.region (σ' := ⟨[(0, (L 2 e_api_Bind a0)), (1, (S a1)), (6, (S ((rd a0 x8_3).Space))), (8, (.v (.int .i64 x8_3)))], []⟩) ?_ ?_
          · refine .cv (VOk.mv (d := (L 2 e_api_Bind a0)) rfl rfl) rfl rfl ?_
            refine .cv (VOk.mv (d := (.v (.int .i64 x8_3))) rfl rfl) rfl rfl ?_
            refine .cv (VOk.indexL (sz := 2) (e := e_api_Bind) (xs := a0) (i := x8_3) rfl Try.underlying26 sz35 rfl rfl c9) rfl rfl ?_
            refine .cv (VOk.to (VOk.fieldFp rfl Try.underlying35 rfl sz9 rfl) rfl) rfl rfl ?_
            refine .cv (VOk.loadFp (d := (S ((rd a0 x8_3).Space))) rfl Try.underlying9 rfl rfl rfl) rfl rfl ?_
            refine .cv (VOk.asg (d := (S ((rd a0 x8_3).Space))) rfl rfl) rfl rfl ?_
            exact .done (.rf rfl rfl)
          refine Ok.region (σ' := ⟨[(0, (L 2 e_api_Bind a0)), (1, (S a1)), (6, (S ((rd a0 x8_3).Space))), (7, (.v (.bool true))), (8, (.v (.int .i64 x8_3)))], []⟩) ?_ ?_
          · refine .cv (VOk.asg (d := (.v (.bool true))) rfl rfl) rfl rfl ?_
            exact .done (.rf rfl rfl)
          refine Ok.region (σ' := ⟨[(0, (L 2 e_api_Bind a0)), (1, (S a1)), (6, (S ((rd a0 x8_3).Space))), (7, (.v (.bool true))), (8, (.v (.int .i64 (IntKind.i64.wrap (x8_3 + 1)))))], []⟩) ?_ ?_
          · refine .cv (VOk.mv (d := (.v (.int .i64 x8_3))) rfl rfl) rfl rfl ?_
            refine .cv (VOk.arith (op := .add) (k := .i64) (a := x8_3) (b := 1) rfl rfl rfl rfl) rfl rfl ?_
            refine .cv (VOk.asg (d := (.v (.int .i64 (IntKind.i64.wrap (x8_3 + 1))))) rfl rfl) rfl rfl ?_
            exact .done (.rf rfl rfl)
          exact ⟨m7, Nat.lt_succ_self m7, ((rd a0 x8_3).Space), true, (IntKind.i64.wrap (x8_3 + 1)), rfl, H⟩
        · replace H := ifF H hb10
          refine Ok.skip ?_
          refine Ok.region (σ' := ⟨[(0, (L 2 e_api_Bind a0)), (1, (S a1)), (6, (S x6_1)), (7, (.v (.bool x7_2))), (8, (.v (.int .i64 (IntKind.i64.wrap (x8_3 + 1)))))], []⟩) ?_ ?_
          · refine .cv (VOk.mv (d := (.v (.int .i64 x8_3))) rfl rfl) rfl rfl ?_
            refine .cv (VOk.arith (op := .add) (k := .i64) (a := x8_3) (b := 1) rfl rfl rfl rfl) rfl rfl ?_
            refine .cv (VOk.asg (d := (.v (.int .i64 (IntKind.i64.wrap (x8_3 + 1))))) rfl rfl) rfl rfl ?_
            exact .done (.rf rfl rfl)
          exact ⟨m7, Nat.lt_succ_self m7, x6_1, x7_2, (IntKind.i64.wrap (x8_3 + 1)), rfl, H⟩
      · replace H := ifF H hb11
        refine Ok.exit ?_
        refine Ok.seq ?_
        refine Ok.region (σ' := ⟨[(4, (S x6_1)), (5, (.v (.bool x7_2)))], []⟩) ?_ ?_
        · refine .cv (VOk.mv (d := (S x6_1)) rfl rfl) rfl rfl ?_
          refine .cv (VOk.mv (d := (.v (.bool x7_2))) rfl rfl) rfl rfl ?_
          refine .cv (VOk.asg (d := (S x6_1)) rfl rfl) rfl rfl ?_
          refine .cv (VOk.asg (d := (.v (.bool x7_2))) rfl rfl) rfl rfl ?_
          exact .done (.rf rfl rfl)
        refine Ok.ret ?_
        obtain rfl := Option.some.inj H
        exact ⟨.inl rfl, ⟨_, (.cons (.tmp rfl) (.cons (.tmp rfl) .nil)), rfl⟩, trivial⟩

/-! watchbill/watchbilllaw02.QnameAdds: function 4 -/
def watchbilllaw02_QnameAdds (k : Nat) (a0 : List T_api_Bind) (a1 : Str) (a2 : Str) (a3 : Str) : Option Bool := ((watchbilllaw02_awake k).bind fun (t1 : Bool) => (if (!t1) = true then some false else ((watchbilllaw02_Few k a0).bind fun (t3 : Bool) => (if ((((!t3) || (decide ((a1.length : Int) > 3000))) || (decide ((a2.length : Int) > 3000))) || (decide ((a3.length : Int) > 3000))) = true then some true else (if ((0 : Int) ≤ (IntKind.i64.wrap ((a0.length : Int) + 2)) ∧ (a0.length : Int) ≤ (IntKind.i64.wrap ((a0.length : Int) + 2))) ∧ (IntKind.i64.wrap ((a0.length : Int) + 2)) * 32 ≤ 140737488355328 then ((qname_Add k a0 a1 a2).bind fun (t12 : (List T_api_Bind) × Int) => ((watchbillref02_Add k a0 a1 a2).bind fun (t14 : (List T_api_Bind) × Int) => ((watchbillref02_Binds k t12.1 t14.1).bind fun (t16 : Bool) => (((if (((!t16) || (t12.2 != t14.2)) == false) = true then watchbillref02_Binds k a0 a0 else some default)).bind fun (t21 : Bool) => (if (((((!t16) || (t12.2 != t14.2)) || (!t21)) == false) = true → (0 : Int) ≤ (a0.length : Int) ∧ (a0.length : Int) < ((a0 ++ (List.replicate (Int.toNat (IntKind.i64.wrap ((a0.length : Int) + 2)) - a0.length) (T_api_Bind.mk ([] : Str) ([] : Str)))).length : Int)) then (if ((((!t16) || (t12.2 != t14.2)) || (!t21)) || (!((rd (a0 ++ (List.replicate (Int.toNat (IntKind.i64.wrap ((a0.length : Int) + 2)) - a0.length) (T_api_Bind.mk ([] : Str) ([] : Str)))) (a0.length : Int)).Prefix == (T_api_Bind.mk ([] : Str) ([] : Str)).Prefix && ((rd (a0 ++ (List.replicate (Int.toNat (IntKind.i64.wrap ((a0.length : Int) + 2)) - a0.length) (T_api_Bind.mk ([] : Str) ([] : Str)))) (a0.length : Int)).Space == (T_api_Bind.mk ([] : Str) ([] : Str)).Space && true)))) = true then some false else ((qname_Find k a0 a3).bind fun (t27 : Str × Bool) => ((watchbillref02_Find k a0 a3).bind fun (t29 : Str × Bool) => some ((t27.1 == t29.1) && (t27.2 == t29.2))))) else none))))) else none)))))
theorem watchbilllaw02_QnameAdds.ok {k : Nat} {a0 : List T_api_Bind} {a1 : Str} {a2 : Str} {a3 : Str} {r : Bool} (H : watchbilllaw02_QnameAdds k a0 a1 a2 a3 = some r) : Vx.Fn Try.prog 4 [(L 2 e_api_Bind a0), (S a1), (S a2), (S a3)] [] (.v (.bool r)) [] := by
  unfold watchbilllaw02_QnameAdds at H
  refine Vx.Fn.of_okR Try.func4 rfl (Nat.le_of_ble_eq_true rfl) ?_
  refine Ok.seq ?_
  refine Ok.region (σ' := ⟨[(0, (L 2 e_api_Bind a0)), (1, (S a1)), (2, (S a2)), (3, (S a3))], []⟩) ?_ ?_
  · refine .cv (VOk.asg (d := (.v (.bool false))) rfl rfl) rfl rfl ?_
    exact .done (.rf rfl rfl)
  refine Ok.seq ?_
  refine Ok.seq ?_
  obtain ⟨t1, h2, H⟩ := bindE H
  refine Ok.region (σ' := ⟨[(0, (L 2 e_api_Bind a0)), (1, (S a1)), (2, (S a2)), (3, (S a3)), (19, (.v (.bool (!t1))))], []⟩) ?_ ?_
  · refine .cg (GOk.call rfl rfl cl9 rfl (watchbilllaw02_awake.ok h2) rfl) rfl rfl ?_
    refine .cv (VOk.not (b := t1) rfl rfl) rfl rfl ?_
    exact .done (.rf rfl rfl)
  refine Ok.test (b := (!t1)) rfl (fun hb35 => ?_) (fun hb35 => ?_)
  · replace H := ifT H hb35
    refine Ok.seq ?_
    refine Ok.region (σ' := ⟨[(8, (.v (.bool false)))], []⟩) ?_ ?_
    · refine .cv (VOk.asg (d := (.v (.bool false))) rfl rfl) rfl rfl ?_
      exact .done (.rf rfl rfl)
    refine Ok.ret ?_
    obtain rfl := Option.some.inj H
    exact ⟨.inl rfl, ⟨_, (.cons (.tmp rfl) .nil), rfl⟩, trivial⟩
  · replace H := ifF H hb35
    refine Ok.skip ?_
    refine Ok.seq ?_
    refine Ok.seq ?_
    obtain ⟨t3, h4, H⟩ := bindE H
    refine Ok.region (σ' := ⟨[(0, (L 2 e_api_Bind a0)), (1, (S a1)), (2, (S a2)), (3, (S a3)), (37, (.v (.bool ((((!t3) || (decide ((a1.length : Int) > 3000))) || (decide ((a2.length : Int) > 3000))) || (decide ((a3.length : Int) > 3000))))))], []⟩) ?_ ?_
    · refine .cv (VOk.mv (d := (L 2 e_api_Bind a0)) rfl rfl) rfl rfl ?_
      refine .cg (GOk.call rfl rfl cl12 rfl (watchbilllaw02_Few.ok h4) rfl) rfl rfl ?_
      refine .cv (VOk.not (b := t3) rfl rfl) rfl rfl ?_
      refine .cv (VOk.mv (d := (.v (.bool (!t3)))) rfl rfl) rfl rfl ?_
      refine OpsOk.consI rfl rfl rfl (.one rfl) rfl (fun hw5 => (VOk.g (VOk.mv (d := (S a1)) rfl rfl))) ?_
      refine OpsOk.consI rfl rfl rfl (.one rfl) rfl (fun hw5 => (GOk.fr (fr' := [(24, (S a1))]) ⟨DLe.of_eq (cT hw5).symm, trivial⟩ (VOk.g (VOk.lenStr (s := a1) rfl Try.underlying9 rfl)))) ?_
      refine OpsOk.consI rfl rfl rfl (.one rfl) rfl (fun hw5 => (GOk.fr (fr' := [(25, (.v (.int .i64 (a1.length : Int))))]) ⟨DLe.of_eq (cT hw5).symm, trivial⟩ (VOk.g (VOk.arith (op := .gtr) (k := .i64) (a := (a1.length : Int)) (b := 3000) rfl rfl rfl rfl)))) ?_
      refine .cv (VOk.to (VOk.pickI (b := (!t3)) (p := true) (q := (decide ((a1.length : Int) > 3000))) rfl rfl (fun hp6 => rfl) (fun hp6 => (cT (f_beq hp6)))) (pickOr (!t3) (decide ((a1.length : Int) > 3000)))) rfl rfl ?_
      refine .cv (VOk.mv (d := (.v (.bool ((!t3) || (decide ((a1.length : Int) > 3000)))))) rfl rfl) rfl rfl ?_
      refine OpsOk.consI rfl rfl rfl (.one rfl) rfl (fun hw7 => (VOk.g (VOk.mv (d := (S a2)) rfl rfl))) ?_
      refine OpsOk.consI rfl rfl rfl (.one rfl) rfl (fun hw7 => (GOk.fr (fr' := [(29, (S a2))]) ⟨DLe.of_eq (cT hw7).symm, trivial⟩ (VOk.g (VOk.lenStr (s := a2) rfl Try.underlying9 rfl)))) ?_
      refine OpsOk.consI rfl rfl rfl (.one rfl) rfl (fun hw7 => (GOk.fr (fr' := [(30, (.v (.int .i64 (a2.length : Int))))]) ⟨DLe.of_eq (cT hw7).symm, trivial⟩ (VOk.g (VOk.arith (op := .gtr) (k := .i64) (a := (a2.length : Int)) (b := 3000) rfl rfl rfl rfl)))) ?_
      refine .cv (VOk.to (VOk.pickI (b := ((!t3) || (decide ((a1.length : Int) > 3000)))) (p := true) (q := (decide ((a2.length : Int) > 3000))) rfl rfl (fun hp8 => rfl) (fun hp8 => (cT (f_beq hp8)))) (pickOr ((!t3) || (decide ((a1.length : Int) > 3000))) (decide ((a2.length : Int) > 3000)))) rfl rfl ?_
      refine .cv (VOk.mv (d := (.v (.bool (((!t3) || (decide ((a1.length : Int) > 3000))) || (decide ((a2.length : Int) > 3000)))))) rfl rfl) rfl rfl ?_
      refine OpsOk.consI rfl rfl rfl (.one rfl) rfl (fun hw9 => (VOk.g (VOk.mv (d := (S a3)) rfl rfl))) ?_
      refine OpsOk.consI rfl rfl rfl (.one rfl) rfl (fun hw9 => (GOk.fr (fr' := [(34, (S a3))]) ⟨DLe.of_eq (cT hw9).symm, trivial⟩ (VOk.g (VOk.lenStr (s := a3) rfl Try.underlying9 rfl)))) ?_
      refine OpsOk.consI rfl rfl rfl (.one rfl) rfl (fun hw9 => (GOk.fr (fr' := [(35, (.v (.int .i64 (a3.length : Int))))]) ⟨DLe.of_eq (cT hw9).symm, trivial⟩ (VOk.g (VOk.arith (op := .gtr) (k := .i64) (a := (a3.length : Int)) (b := 3000) rfl rfl rfl rfl)))) ?_
      refine .cv (VOk.to (VOk.pickI (b := (((!t3) || (decide ((a1.length : Int) > 3000))) || (decide ((a2.length : Int) > 3000)))) (p := true) (q := (decide ((a3.length : Int) > 3000))) rfl rfl (fun hp10 => rfl) (fun hp10 => (cT (f_beq hp10)))) (pickOr (((!t3) || (decide ((a1.length : Int) > 3000))) || (decide ((a2.length : Int) > 3000))) (decide ((a3.length : Int) > 3000)))) rfl rfl ?_
      exact .done (.rf rfl rfl)
    refine Ok.test (b := ((((!t3) || (decide ((a1.length : Int) > 3000))) || (decide ((a2.length : Int) > 3000))) || (decide ((a3.length : Int) > 3000)))) rfl (fun hb34 => ?_) (fun hb34 => ?_)
    · replace H := ifT H hb34
      refine Ok.seq ?_
      refine Ok.region (σ' := ⟨[(8, (.v (.bool true)))], []⟩) ?_ ?_
      · refine .cv (VOk.asg (d := (.v (.bool true))) rfl rfl) rfl rfl ?_
        exact .done (.rf rfl rfl)
      refine Ok.ret ?_
      obtain rfl := Option.some.inj H
      exact ⟨.inl rfl, ⟨_, (.cons (.tmp rfl) .nil), rfl⟩, trivial⟩
    · replace H := ifF H hb34
      refine Ok.skip ?_
      refine Ok.seq ?_
      obtain ⟨c11, H⟩ := assertE H
      refine Ok.region (σ' := ⟨[(0, (L 2 e_api_Bind a0)), (1, (S a1)), (2, (S a2)), (3, (S a3)), (9, (.wlist 2 (List.map e_api_Bind a0) (List.map e_api_Bind (List.replicate (Int.toNat (IntKind.i64.wrap ((a0.length : Int) + 2)) - a0.length) (T_api_Bind.mk ([] : Str) ([] : Str))))))], []⟩) ?_ ?_
      · refine .cv (VOk.mv (d := (L 2 e_api_Bind a0)) rfl rfl) rfl rfl ?_
        refine .cv (VOk.lenL (e := e_api_Bind) (xs := a0) rfl Try.underlying26 rfl) rfl rfl ?_
        refine .cv (VOk.arith (op := .add) (k := .i64) (a := (a0.length : Int)) (b := 2) rfl rfl rfl rfl) rfl rfl ?_
        refine OpsOk.makeApp (e := e_api_Bind) (ys := a0) (zs := (List.replicate (Int.toNat (IntKind.i64.wrap ((a0.length : Int) + 2)) - a0.length) (T_api_Bind.mk ([] : Str) ([] : Str)))) (z0 := (T_api_Bind.mk ([] : Str) ([] : Str))) (m := (IntKind.i64.wrap ((a0.length : Int) + 2))) [none, none] rfl rfl rfl ⟨⟨rfl, rfl⟩, rfl⟩ rfl rfl rfl rfl Try.underlying26 elt35 zo35 rfl rfl rfl rfl c11 rfl ?_
        refine .cv (VOk.asg (d := (.wlist 2 (List.map e_api_Bind a0) (List.map e_api_Bind (List.replicate (Int.toNat (IntKind.i64.wrap ((a0.length : Int) + 2)) - a0.length) (T_api_Bind.mk ([] : Str) ([] : Str)))))) rfl rfl) rfl rfl ?_
        exact .done (.rf rfl rfl)
      refine Ok.seq ?_
      obtain ⟨t12, h13, H⟩ := bindE H
      refine Ok.region (σ' := ⟨[(0, (L 2 e_api_Bind a0)), (1, (S a1)), (2, (S a2)), (3, (S a3)), (9, (.wlist 2 (List.map e_api_Bind a0) (List.map e_api_Bind (List.replicate (Int.toNat (IntKind.i64.wrap ((a0.length : Int) + 2)) - a0.length) (T_api_Bind.mk ([] : Str) ([] : Str)))))), (10, (L 2 e_api_Bind t12.1)), (11, (.v (.int .i64 t12.2)))], []⟩) ?_ ?_
      · refine .cv (VOk.mv (d := (.wlist 2 (List.map e_api_Bind a0) (List.map e_api_Bind (List.replicate (Int.toNat (IntKind.i64.wrap ((a0.length : Int) + 2)) - a0.length) (T_api_Bind.mk ([] : Str) ([] : Str)))))) rfl rfl) rfl rfl ?_
        refine .cv (VOk.mv (d := (S a1)) rfl rfl) rfl rfl ?_
        refine .cv (VOk.mv (d := (S a2)) rfl rfl) rfl rfl ?_
        refine .cg (GOk.call rfl rfl cl13 rfl (Fn.weak (ds := [(L 2 e_api_Bind a0), (S a1), (S a2)]) (qname_Add.ok h13) ⟨.wl _ _ _, .same _, .same _, trivial⟩) rfl) rfl rfl ?_
        refine .cv (VOk.mv (d := (.tup [(L 2 e_api_Bind t12.1), (.v (.int .i64 t12.2))])) rfl rfl) rfl rfl ?_
        refine .cv (VOk.extract (d := (L 2 e_api_Bind t12.1)) rfl rfl rfl) rfl rfl ?_
        refine .cv (VOk.extract (d := (.v (.int .i64 t12.2))) rfl rfl rfl) rfl rfl ?_
        refine .cv (VOk.asg (d := (L 2 e_api_Bind t12.1)) rfl rfl) rfl rfl ?_
        refine .cv (VOk.asg (d := (.v (.int .i64 t12.2))) rfl rfl) rfl rfl ?_
        exact .done (.rf rfl rfl)
      refine Ok.seq ?_
      obtain ⟨t14, h15, H⟩ := bindE H
      refine Ok.region (σ' := ⟨[(0, (L 2 e_api_Bind a0)), (3, (S a3)), (9, (.wlist 2 (List.map e_api_Bind a0) (List.map e_api_Bind (List.replicate (Int.toNat (IntKind.i64.wrap ((a0.length : Int) + 2)) - a0.length) (T_api_Bind.mk ([] : Str) ([] : Str)))))), (10, (L 2 e_api_Bind t12.1)), (11, (.v (.int .i64 t12.2))), (12, (L 2 e_api_Bind t14.1)), (13, (.v (.int .i64 t14.2)))], []⟩) ?_ ?_
      · refine .cv (VOk.mv (d := (L 2 e_api_Bind a0)) rfl rfl) rfl rfl ?_
        refine .cv (VOk.mv (d := (S a1)) rfl rfl) rfl rfl ?_
        refine .cv (VOk.mv (d := (S a2)) rfl rfl) rfl rfl ?_
        refine .cg (GOk.call rfl rfl cl14 rfl (watchbillref02_Add.ok h15) rfl) rfl rfl ?_
        refine .cv (VOk.mv (d := (.tup [(L 2 e_api_Bind t14.1), (.v (.int .i64 t14.2))])) rfl rfl) rfl rfl ?_
        refine .cv (VOk.extract (d := (L 2 e_api_Bind t14.1)) rfl rfl rfl) rfl rfl ?_
        refine .cv (VOk.extract (d := (.v (.int .i64 t14.2))) rfl rfl rfl) rfl rfl ?_
        refine .cv (VOk.asg (d := (L 2 e_api_Bind t14.1)) rfl rfl) rfl rfl ?_
        refine .cv (VOk.asg (d := (.v (.int .i64 t14.2))) rfl rfl) rfl rfl ?_
        exact .done (.rf rfl rfl)
      refine Ok.seq ?_
      refine Ok.seq ?_
      obtain ⟨t16, h17, H⟩ := bindE H
      obtain ⟨t21, h22, H⟩ := bindE H
      obtain ⟨c25, H⟩ := assertE H
      refine Ok.region (σ' := ⟨[(0, (L 2 e_api_Bind a0)), (3, (S a3)), (9, (.wlist 2 (List.map e_api_Bind a0) (List.map e_api_Bind (List.replicate (Int.toNat (IntKind.i64.wrap ((a0.length : Int) + 2)) - a0.length) (T_api_Bind.mk ([] : Str) ([] : Str)))))), (84, (.v (.bool ((((!t16) || (t12.2 != t14.2)) || (!t21)) || (!((rd (a0 ++ (List.replicate (Int.toNat (IntKind.i64.wrap ((a0.length : Int) + 2)) - a0.length) (T_api_Bind.mk ([] : Str) ([] : Str)))) (a0.length : Int)).Prefix == (T_api_Bind.mk ([] : Str) ([] : Str)).Prefix && ((rd (a0 ++ (List.replicate (Int.toNat (IntKind.i64.wrap ((a0.length : Int) + 2)) - a0.length) (T_api_Bind.mk ([] : Str) ([] : Str)))) (a0.length : Int)).Space == (T_api_Bind.mk ([] : Str) ([] : Str)).Space && true)))))))], []⟩) ?_ ?_
      · refine .cv (VOk.mv (d := (L 2 e_api_Bind t12.1)) rfl rfl) rfl rfl ?_
        refine .cv (VOk.mv (d := (L 2 e_api_Bind t14.1)) rfl rfl) rfl rfl ?_
        refine .cg (GOk.call rfl rfl cl15 rfl (watchbillref02_Binds.ok h17) rfl) rfl rfl ?_
        refine .cv (VOk.not (b := t16) rfl rfl) rfl rfl ?_
        refine .cv (VOk.mv (d := (.v (.bool (!t16)))) rfl rfl) rfl rfl ?_
        refine OpsOk.consI rfl rfl rfl (.one rfl) rfl (fun hw18 => (VOk.g (VOk.mv (d := (.v (.int .i64 t12.2))) rfl rfl))) ?_
        refine OpsOk.consI rfl rfl rfl (.one rfl) rfl (fun hw18 => (VOk.g (VOk.mv (d := (.v (.int .i64 t14.2))) rfl rfl))) ?_
        refine OpsOk.consI rfl rfl rfl (.one rfl) rfl (fun hw18 => (GOk.fr (fr' := [(63, (.v (.int .i64 t12.2))), (64, (.v (.int .i64 t14.2)))]) ⟨DLe.of_eq (cT hw18).symm, DLe.of_eq (cT hw18).symm, trivial⟩ (VOk.g (VOk.arith (op := .neq) (k := .i64) (a := t12.2) (b := t14.2) rfl rfl rfl rfl)))) ?_
        refine .cv (VOk.to (VOk.pickI (b := (!t16)) (p := true) (q := (t12.2 != t14.2)) rfl rfl (fun hp19 => rfl) (fun hp19 => (cT (f_beq hp19)))) (pickOr (!t16) (t12.2 != t14.2))) rfl rfl ?_
        refine .cv (VOk.mv (d := (.v (.bool ((!t16) || (t12.2 != t14.2))))) rfl rfl) rfl rfl ?_
        refine OpsOk.consI rfl rfl rfl (.one rfl) rfl (fun hw20 => (VOk.g (VOk.mv (d := (.wlist 2 (List.map e_api_Bind a0) (List.map e_api_Bind (List.replicate (Int.toNat (IntKind.i64.wrap ((a0.length : Int) + 2)) - a0.length) (T_api_Bind.mk ([] : Str) ([] : Str)))))) rfl rfl))) ?_
        refine OpsOk.consI rfl rfl rfl (.one rfl) rfl (fun hw20 => (VOk.g (VOk.mv (d := (L 2 e_api_Bind a0)) rfl rfl))) ?_
        refine OpsOk.consI rfl rfl rfl (.one rfl) rfl (fun hw20 => (GOk.fr (fr' := [(68, (.wlist 2 (List.map e_api_Bind a0) (List.map e_api_Bind (List.replicate (Int.toNat (IntKind.i64.wrap ((a0.length : Int) + 2)) - a0.length) (T_api_Bind.mk ([] : Str) ([] : Str)))))), (69, (L 2 e_api_Bind a0))]) ⟨DLe.of_eq (cT hw20).symm, DLe.of_eq (cT hw20).symm, trivial⟩ (GOk.call rfl rfl cl15 rfl (Fn.weak (ds := [(L 2 e_api_Bind a0), (L 2 e_api_Bind a0)]) (watchbillref02_Binds.ok (ifT h22 hw20)) ⟨.wl _ _ _, .same _, trivial⟩) rfl))) ?_
        refine OpsOk.consI rfl rfl rfl (.one rfl) rfl (fun hw20 => (GOk.fr (fr' := [(70, (.v (.bool t21)))]) ⟨DLe.of_eq (cT hw20).symm, trivial⟩ (VOk.g (VOk.not (b := t21) rfl rfl)))) ?_
        refine .cv (VOk.to (VOk.pickI (b := ((!t16) || (t12.2 != t14.2))) (p := true) (q := (!t21)) rfl rfl (fun hp23 => rfl) (fun hp23 => (cT (f_beq hp23)))) (pickOr ((!t16) || (t12.2 != t14.2)) (!t21))) rfl rfl ?_
        refine .cv (VOk.mv (d := (.v (.bool (((!t16) || (t12.2 != t14.2)) || (!t21))))) rfl rfl) rfl rfl ?_
        refine OpsOk.consI rfl rfl rfl (.one rfl) rfl (fun hw24 => (VOk.g (VOk.mv (d := (.wlist 2 (List.map e_api_Bind a0) (List.map e_api_Bind (List.replicate (Int.toNat (IntKind.i64.wrap ((a0.length : Int) + 2)) - a0.length) (T_api_Bind.mk ([] : Str) ([] : Str)))))) rfl rfl))) ?_
        refine OpsOk.consI rfl rfl rfl (.one rfl) rfl (fun hw24 => (VOk.g (VOk.mv (d := (.wlist 2 (List.map e_api_Bind a0) (List.map e_api_Bind (List.replicate (Int.toNat (IntKind.i64.wrap ((a0.length : Int) + 2)) - a0.length) (T_api_Bind.mk ([] : Str) ([] : Str)))))) rfl rfl))) ?_
        refine OpsOk.consI rfl rfl rfl (.one rfl) rfl (fun hw24 => (GOk.fr (fr' := [(75, (.wlist 2 (List.map e_api_Bind a0) (List.map e_api_Bind (List.replicate (Int.toNat (IntKind.i64.wrap ((a0.length : Int) + 2)) - a0.length) (T_api_Bind.mk ([] : Str) ([] : Str))))))]) ⟨DLe.of_eq (cT hw24).symm, trivial⟩ (VOk.g (VOk.capW (e := e_api_Bind) (ys := a0) (zs := (List.replicate (Int.toNat (IntKind.i64.wrap ((a0.length : Int) + 2)) - a0.length) (T_api_Bind.mk ([] : Str) ([] : Str)))) rfl Try.underlying26 rfl)))) ?_
        refine OpsOk.consI rfl rfl rfl (.one rfl) rfl (fun hw24 => (GOk.fr (fr' := [(74, (.wlist 2 (List.map e_api_Bind a0) (List.map e_api_Bind (List.replicate (Int.toNat (IntKind.i64.wrap ((a0.length : Int) + 2)) - a0.length) (T_api_Bind.mk ([] : Str) ([] : Str)))))), (76, (.v (.int .i64 ((a0 ++ (List.replicate (Int.toNat (IntKind.i64.wrap ((a0.length : Int) + 2)) - a0.length) (T_api_Bind.mk ([] : Str) ([] : Str)))).length : Int))))]) ⟨DLe.of_eq (cT hw24).symm, DLe.of_eq (cT hw24).symm, trivial⟩ (VOk.g (VOk.sliceW (e := e_api_Bind) (ys := a0) (zs := (List.replicate (Int.toNat (IntKind.i64.wrap ((a0.length : Int) + 2)) - a0.length) (T_api_Bind.mk ([] : Str) ([] : Str)))) rfl Try.underlying26 sz35 rfl rfl)))) ?_
        refine OpsOk.consI rfl rfl rfl (.one rfl) rfl (fun hw24 => (VOk.g (VOk.mv (d := (L 2 e_api_Bind a0)) rfl rfl))) ?_
        refine OpsOk.consI rfl rfl rfl (.one rfl) rfl (fun hw24 => (GOk.fr (fr' := [(78, (L 2 e_api_Bind a0))]) ⟨DLe.of_eq (cT hw24).symm, trivial⟩ (VOk.g (VOk.lenL (e := e_api_Bind) (xs := a0) rfl Try.underlying26 rfl)))) ?_
        refine OpsOk.consI rfl rfl rfl (.one rfl) rfl (fun hw24 => (GOk.fr (fr' := [(77, (L 2 e_api_Bind (a0 ++ (List.replicate (Int.toNat (IntKind.i64.wrap ((a0.length : Int) + 2)) - a0.length) (T_api_Bind.mk ([] : Str) ([] : Str)))))), (79, (.v (.int .i64 (a0.length : Int))))]) ⟨DLe.of_eq (cT hw24).symm, DLe.of_eq (cT hw24).symm, trivial⟩ (VOk.g (VOk.indexL (sz := 2) (e := e_api_Bind) (xs := (a0 ++ (List.replicate (Int.toNat (IntKind.i64.wrap ((a0.length : Int) + 2)) - a0.length) (T_api_Bind.mk ([] : Str) ([] : Str))))) (i := (a0.length : Int)) rfl Try.underlying26 sz35 rfl rfl (c25 hw24))))) ?_
        refine OpsOk.consI rfl rfl rfl (.one rfl) rfl (fun hw24 => (GOk.fr (fr' := [(80, (.fp (e_api_Bind (rd (a0 ++ (List.replicate (Int.toNat (IntKind.i64.wrap ((a0.length : Int) + 2)) - a0.length) (T_api_Bind.mk ([] : Str) ([] : Str)))) (a0.length : Int))) 0))]) ⟨DLe.of_eq (cT hw24).symm, trivial⟩ (VOk.g (VOk.to (d' := (.agg (e_api_Bind (rd (a0 ++ (List.replicate (Int.toNat (IntKind.i64.wrap ((a0.length : Int) + 2)) - a0.length) (T_api_Bind.mk ([] : Str) ([] : Str)))) (a0.length : Int))))) (.loadFpAgg rfl Try.underlying35 rfl sz35 rfl rfl) rfl)))) ?_
        refine OpsOk.consI rfl rfl rfl (.one rfl) rfl (fun hw24 => (VOk.g (VOk.to (d' := (.agg (e_api_Bind (T_api_Bind.mk ([] : Str) ([] : Str))))) (.build [none, none] [(0, 1), (1, 1)] rfl Try.underlying35 (fa35 Try.underlying35) zo35 rfl rfl) rfl))) ?_
        refine OpsOk.consI rfl rfl rfl (.one rfl) rfl (fun hw24 => (GOk.fr (fr' := [(81, (.agg (e_api_Bind (rd (a0 ++ (List.replicate (Int.toNat (IntKind.i64.wrap ((a0.length : Int) + 2)) - a0.length) (T_api_Bind.mk ([] : Str) ([] : Str)))) (a0.length : Int))))), (82, (.agg (e_api_Bind (T_api_Bind.mk ([] : Str) ([] : Str)))))]) ⟨DLe.of_eq (cT hw24).symm, DLe.of_eq (cT hw24).symm, trivial⟩ (VOk.g (VOk.eqS' (op := .neq) (d := (.v (.bool (!((rd (a0 ++ (List.replicate (Int.toNat (IntKind.i64.wrap ((a0.length : Int) + 2)) - a0.length) (T_api_Bind.mk ([] : Str) ([] : Str)))) (a0.length : Int)).Prefix == (T_api_Bind.mk ([] : Str) ([] : Str)).Prefix && ((rd (a0 ++ (List.replicate (Int.toNat (IntKind.i64.wrap ((a0.length : Int) + 2)) - a0.length) (T_api_Bind.mk ([] : Str) ([] : Str)))) (a0.length : Int)).Space == (T_api_Bind.mk ([] : Str) ([] : Str)).Space && true)))))) rfl (.inr rfl) (eqt35 9998) ag35 eg35 rfl rfl rfl rfl)))) ?_
        refine .cv (VOk.to (VOk.pickI (b := (((!t16) || (t12.2 != t14.2)) || (!t21))) (p := true) (q := (!((rd (a0 ++ (List.replicate (Int.toNat (IntKind.i64.wrap ((a0.length : Int) + 2)) - a0.length) (T_api_Bind.mk ([] : Str) ([] : Str)))) (a0.length : Int)).Prefix == (T_api_Bind.mk ([] : Str) ([] : Str)).Prefix && ((rd (a0 ++ (List.replicate (Int.toNat (IntKind.i64.wrap ((a0.length : Int) + 2)) - a0.length) (T_api_Bind.mk ([] : Str) ([] : Str)))) (a0.length : Int)).Space == (T_api_Bind.mk ([] : Str) ([] : Str)).Space && true)))) rfl rfl (fun hp26 => rfl) (fun hp26 => (cT (f_beq hp26)))) (pickOr (((!t16) || (t12.2 != t14.2)) || (!t21)) (!((rd (a0 ++ (List.replicate (Int.toNat (IntKind.i64.wrap ((a0.length : Int) + 2)) - a0.length) (T_api_Bind.mk ([] : Str) ([] : Str)))) (a0.length : Int)).Prefix == (T_api_Bind.mk ([] : Str) ([] : Str)).Prefix && ((rd (a0 ++ (List.replicate (Int.toNat (IntKind.i64.wrap ((a0.length : Int) + 2)) - a0.length) (T_api_Bind.mk ([] : Str) ([] : Str)))) (a0.length : Int)).Space == (T_api_Bind.mk ([] : Str) ([] : Str)).Space && true))))) rfl rfl ?_
        exact .done (.rf rfl rfl)
      refine Ok.test (b := ((((!t16) || (t12.2 != t14.2)) || (!t21)) || (!((rd (a0 ++ (List.replicate (Int.toNat (IntKind.i64.wrap ((a0.length : Int) + 2)) - a0.length) (T_api_Bind.mk ([] : Str) ([] : Str)))) (a0.length : Int)).Prefix == (T_api_Bind.mk ([] : Str) ([] : Str)).Prefix && ((rd (a0 ++ (List.replicate (Int.toNat (IntKind.i64.wrap ((a0.length : Int) + 2)) - a0.length) (T_api_Bind.mk ([] : Str) ([] : Str)))) (a0.length : Int)).Space == (T_api_Bind.mk ([] : Str) ([] : Str)).Space && true))))) rfl (fun hb33 => ?_) (fun hb33 => ?_)
      · replace H := ifT H hb33
        refine Ok.seq ?_
        refine Ok.region (σ' := ⟨[(8, (.v (.bool false)))], []⟩) ?_ ?_
        · refine .cv (VOk.asg (d := (.v (.bool false))) rfl rfl) rfl rfl ?_
          exact .done (.rf rfl rfl)
        refine Ok.ret ?_
        obtain rfl := Option.some.inj H
        exact ⟨.inl rfl, ⟨_, (.cons (.tmp rfl) .nil), rfl⟩, trivial⟩
      · replace H := ifF H hb33
        refine Ok.skip ?_
        refine Ok.seq ?_
        obtain ⟨t27, h28, H⟩ := bindE H
        refine Ok.region (σ' := ⟨[(0, (L 2 e_api_Bind a0)), (3, (S a3)), (14, (S t27.1)), (15, (.v (.bool t27.2)))], []⟩) ?_ ?_
        · refine .cv (VOk.mv (d := (.wlist 2 (List.map e_api_Bind a0) (List.map e_api_Bind (List.replicate (Int.toNat (IntKind.i64.wrap ((a0.length : Int) + 2)) - a0.length) (T_api_Bind.mk ([] : Str) ([] : Str)))))) rfl rfl) rfl rfl ?_
          refine .cv (VOk.mv (d := (S a3)) rfl rfl) rfl rfl ?_
          refine .cg (GOk.call rfl rfl cl16 rfl (Fn.weak (ds := [(L 2 e_api_Bind a0), (S a3)]) (qname_Find.ok h28) ⟨.wl _ _ _, .same _, trivial⟩) rfl) rfl rfl ?_
          refine .cv (VOk.mv (d := (.tup [(S t27.1), (.v (.bool t27.2))])) rfl rfl) rfl rfl ?_
          refine .cv (VOk.extract (d := (S t27.1)) rfl rfl rfl) rfl rfl ?_
          refine .cv (VOk.extract (d := (.v (.bool t27.2))) rfl rfl rfl) rfl rfl ?_
          refine .cv (VOk.asg (d := (S t27.1)) rfl rfl) rfl rfl ?_
          refine .cv (VOk.asg (d := (.v (.bool t27.2))) rfl rfl) rfl rfl ?_
          exact .done (.rf rfl rfl)
        refine Ok.seq ?_
        obtain ⟨t29, h30, H⟩ := bindE H
        refine Ok.region (σ' := ⟨[(14, (S t27.1)), (15, (.v (.bool t27.2))), (16, (S t29.1)), (17, (.v (.bool t29.2)))], []⟩) ?_ ?_
        · refine .cv (VOk.mv (d := (L 2 e_api_Bind a0)) rfl rfl) rfl rfl ?_
          refine .cv (VOk.mv (d := (S a3)) rfl rfl) rfl rfl ?_
          refine .cg (GOk.call rfl rfl cl17 rfl (watchbillref02_Find.ok h30) rfl) rfl rfl ?_
          refine .cv (VOk.mv (d := (.tup [(S t29.1), (.v (.bool t29.2))])) rfl rfl) rfl rfl ?_
          refine .cv (VOk.extract (d := (S t29.1)) rfl rfl rfl) rfl rfl ?_
          refine .cv (VOk.extract (d := (.v (.bool t29.2))) rfl rfl rfl) rfl rfl ?_
          refine .cv (VOk.asg (d := (S t29.1)) rfl rfl) rfl rfl ?_
          refine .cv (VOk.asg (d := (.v (.bool t29.2))) rfl rfl) rfl rfl ?_
          exact .done (.rf rfl rfl)
        refine Ok.seq ?_
        refine Ok.region (σ' := ⟨[(8, (.v (.bool ((t27.1 == t29.1) && (t27.2 == t29.2)))))], []⟩) ?_ ?_
        · refine .cv (VOk.mv (d := (S t27.1)) rfl rfl) rfl rfl ?_
          refine .cv (VOk.mv (d := (S t29.1)) rfl rfl) rfl rfl ?_
          refine .cv (VOk.strOp (op := .eql) (a := t27.1) (b := t29.1) rfl rfl rfl rfl) rfl rfl ?_
          refine .cv (VOk.mv (d := (.v (.bool (t27.1 == t29.1)))) rfl rfl) rfl rfl ?_
          refine OpsOk.consI rfl rfl rfl (.one rfl) rfl (fun hw31 => (VOk.g (VOk.mv (d := (.v (.bool t27.2))) rfl rfl))) ?_
          refine OpsOk.consI rfl rfl rfl (.one rfl) rfl (fun hw31 => (VOk.g (VOk.mv (d := (.v (.bool t29.2))) rfl rfl))) ?_
          refine OpsOk.consI rfl rfl rfl (.one rfl) rfl (fun hw31 => (GOk.fr (fr' := [(101, (.v (.bool t27.2))), (102, (.v (.bool t29.2)))]) ⟨DLe.of_eq (cT hw31).symm, DLe.of_eq (cT hw31).symm, trivial⟩ (VOk.g (VOk.eqB (op := .eql) (p := t27.2) (q := t29.2) rfl (.inl rfl) Try.underlying4 rfl rfl)))) ?_
          refine .cv (VOk.to (VOk.pickI (b := (t27.1 == t29.1)) (p := (t27.2 == t29.2)) (q := false) rfl rfl (fun hp32 => (cT (t_beq hp32))) (fun hp32 => rfl)) (pickAnd (t27.1 == t29.1) (t27.2 == t29.2))) rfl rfl ?_
          refine .cv (VOk.asg (d := (.v (.bool ((t27.1 == t29.1) && (t27.2 == t29.2))))) rfl rfl) rfl rfl ?_
          exact .done (.rf rfl rfl)
        refine Ok.ret ?_
        obtain rfl := Option.some.inj H
        exact ⟨.inl rfl, ⟨_, (.cons (.tmp rfl) .nil), rfl⟩, trivial⟩

/-! watchbill/watchbillref02.Split: function 11 -/
def watchbillref02_Split.l0 (k : Nat) (a0 : Str) : Nat → Int → Option (Str × Str × Bool)
  | 0, _ => none
  | m3 + 1, x5_1 => (if (decide (x5_1 < (a0.length : Int))) = true then (if (0 : Int) ≤ x5_1 ∧ x5_1 < (a0.length : Int) then (if ((bt a0 x5_1) == 58) = true then (if (0 : Int) ≤ 0 ∧ (0 : Int) ≤ x5_1 ∧ x5_1 ≤ (a0.length : Int) then (if (0 : Int) ≤ (IntKind.i64.wrap (x5_1 + 1)) ∧ (IntKind.i64.wrap (x5_1 + 1)) ≤ (a0.length : Int) ∧ (a0.length : Int) ≤ (a0.length : Int) then ((watchbillref01_Name k (sl a0 0 x5_1)).bind fun (t7 : Bool) => (((if (t7 == true) = true then watchbillref01_Name k (sl a0 (IntKind.i64.wrap (x5_1 + 1)) (a0.length : Int)) else some default)).bind fun (t10 : Bool) => (if (t7 && t10) = true then some ((sl a0 0 x5_1), (sl a0 (IntKind.i64.wrap (x5_1 + 1)) (a0.length : Int)), true) else some (([] : Str), ([] : Str), false)))) else none) else none) else watchbillref02_Split.l0 k a0 m3 (IntKind.i64.wrap (x5_1 + 1))) else none) else ((watchbillref01_Name k a0).bind fun (t15 : Bool) => (if t15 = true then some (([] : Str), a0, true) else some (([] : Str), ([] : Str), false))))
def watchbillref02_Split (k : Nat) (a0 : Str) : Option (Str × Str × Bool) := watchbillref02_Split.l0 k a0 k 0
theorem watchbillref02_Split.ok {k : Nat} {a0 : Str} {r : Str × Str × Bool} (H : watchbillref02_Split k a0 = some r) : Vx.Fn Try.prog 11 [(S a0)] [] (.tup [(S r.1), (S r.2.1), (.v (.bool r.2.2))]) [] := by
  unfold watchbillref02_Split at H
  refine Vx.Fn.of_okR Try.func11 rfl (Nat.le_of_ble_eq_true rfl) ?_
  refine Ok.seq ?_
  refine Ok.region (σ' := ⟨[(0, (S a0))], []⟩) ?_ ?_
  · refine .cv (VOk.asg (d := (S ([] : Str))) rfl rfl) rfl rfl ?_
    refine .cv (VOk.asg (d := (S ([] : Str))) rfl rfl) rfl rfl ?_
    refine .cv (VOk.asg (d := (.v (.bool false))) rfl rfl) rfl rfl ?_
    exact .done (.rf rfl rfl)
  refine Ok.seq ?_
  refine Ok.seq ?_
  refine Ok.region (σ' := ⟨[(0, (S a0)), (5, (.v (.int .i64 0)))], []⟩) ?_ ?_
  · refine .cv (VOk.asg (d := (.v (.int .i64 0))) rfl rfl) rfl rfl ?_
    exact .done (.rf rfl rfl)
  refine Ok.block ?_
  refine Ok.le (σ' := ⟨[(0, (S a0)), (5, (.v (.int .i64 0)))], []⟩) (.rf rfl rfl) ?_
  refine Ok.loop (fun m3 σ => ∃ (x5_1 : Int), σ = ⟨[(0, (S a0)), (5, (.v (.int .i64 x5_1)))], []⟩ ∧ watchbillref02_Split.l0 k a0 m3 x5_1 = some r) k ⟨0, rfl, H⟩ ?_
  rintro m3 σ ⟨x5_1, rfl, H⟩
  cases m3 with
  | zero => exact absurd H (by simp [watchbillref02_Split.l0])
  | succ m3 =>
    unfold watchbillref02_Split.l0 at H
    refine Ok.seq ?_
    refine Ok.seq ?_
    refine Ok.region (σ' := ⟨[(0, (S a0)), (5, (.v (.int .i64 x5_1))), (11, (.v (.bool (decide (x5_1 < (a0.length : Int))))))], []⟩) ?_ ?_
    · refine .cv (VOk.mv (d := (.v (.int .i64 x5_1))) rfl rfl) rfl rfl ?_
      refine .cv (VOk.mv (d := (S a0)) rfl rfl) rfl rfl ?_
      refine .cv (VOk.lenStr (s := a0) rfl Try.underlying9 rfl) rfl rfl ?_
      refine .cv (VOk.arith (op := .lss) (k := .i64) (a := x5_1) (b := (a0.length : Int)) rfl rfl rfl rfl) rfl rfl ?_
      exact .done (.rf rfl rfl)
    refine Ok.test (b := (decide (x5_1 < (a0.length : Int)))) rfl (fun hb18 => ?_) (fun hb18 => ?_)
    · replace H := ifT H hb18
      refine Ok.skip ?_
      refine Ok.seq ?_
      refine Ok.block ?_
      refine Ok.seq ?_
      obtain ⟨c4, H⟩ := assertE H
      refine Ok.region (σ' := ⟨[(0, (S a0)), (5, (.v (.int .i64 x5_1))), (17, (.v (.bool ((bt a0 x5_1) == 58))))], []⟩) ?_ ?_
      · refine .cv (VOk.mv (d := (S a0)) rfl rfl) rfl rfl ?_
        refine .cv (VOk.mv (d := (.v (.int .i64 x5_1))) rfl rfl) rfl rfl ?_
        refine .cv (VOk.indexStr (s := a0) (i := x5_1) rfl Try.underlying9 rfl rfl c4) rfl rfl ?_
        refine .cv (VOk.arith (op := .eql) (k := .u8) (a := (bt a0 x5_1)) (b := 58) rfl rfl rfl rfl) rfl rfl ?_
        exact .done (.rf rfl rfl)
      refine Ok.test (b := ((bt a0 x5_1) == 58)) rfl (fun hb14 => ?_) (fun hb14 => ?_)
      · replace H := ifT H hb14
        refine Ok.seq ?_
        obtain ⟨c5, H⟩ := assertE H
        obtain ⟨c6, H⟩ := assertE H
        refine Ok.drawE (σ' := ⟨[(6, (S (sl a0 0 x5_1))), (7, (S (sl a0 (IntKind.i64.wrap (x5_1 + 1)) (a0.length : Int))))], []⟩) [⟨true, [(0, (S a0))], (S a0)⟩, ⟨true, [(5, (.v (.int .i64 x5_1)))], (.v (.int .i64 x5_1))⟩, ⟨true, [(18, (S a0)), (19, (.v (.int .i64 x5_1)))], (S (sl a0 0 x5_1))⟩, ⟨true, [(0, (S a0))], (S a0)⟩, ⟨true, [(5, (.v (.int .i64 x5_1)))], (.v (.int .i64 x5_1))⟩, ⟨true, [(22, (.v (.int .i64 x5_1)))], (.v (.int .i64 (IntKind.i64.wrap (x5_1 + 1))))⟩, ⟨true, [(21, (S a0)), (23, (.v (.int .i64 (IntKind.i64.wrap (x5_1 + 1)))))], (S (sl a0 (IntKind.i64.wrap (x5_1 + 1)) (a0.length : Int)))⟩, ⟨true, [(20, (S (sl a0 0 x5_1)))], (S (sl a0 0 x5_1))⟩, ⟨true, [(24, (S (sl a0 (IntKind.i64.wrap (x5_1 + 1)) (a0.length : Int))))], (S (sl a0 (IntKind.i64.wrap (x5_1 + 1)) (a0.length : Int)))⟩] [[], [], [0, 1], [], [], [4], [3, 5], [2], [6]] mixed (by kernel_rfl) ?_ ?_
        · refine TxtE.cons rfl ⟨.same _, trivial⟩ rfl (VOk.g (VOk.mv (d := (S a0)) rfl rfl)) ?_
          refine TxtE.cons rfl ⟨.same _, trivial⟩ rfl (VOk.g (VOk.mv (d := (.v (.int .i64 x5_1))) rfl rfl)) ?_
          refine TxtE.cons rfl ⟨.same _, .same _, trivial⟩ rfl (VOk.g (VOk.sliceStr (s := a0) (l := 0) (h := x5_1) rfl Try.underlying9 rfl rfl rfl c5)) ?_
          refine TxtE.cons rfl ⟨.same _, trivial⟩ rfl (VOk.g (VOk.mv (d := (S a0)) rfl rfl)) ?_
          refine TxtE.cons rfl ⟨.same _, trivial⟩ rfl (VOk.g (VOk.mv (d := (.v (.int .i64 x5_1))) rfl rfl)) ?_
          refine TxtE.cons rfl ⟨.same _, trivial⟩ rfl (VOk.g (VOk.arith (op := .add) (k := .i64) (a := x5_1) (b := 1) rfl rfl rfl rfl)) ?_
          refine TxtE.cons rfl ⟨.same _, .same _, trivial⟩ rfl (VOk.g (VOk.sliceStr (s := a0) (l := (IntKind.i64.wrap (x5_1 + 1))) (h := (a0.length : Int)) rfl Try.underlying9 rfl rfl rfl c6)) ?_
          refine TxtE.cons rfl ⟨.same _, trivial⟩ rfl (VOk.g (VOk.asg (d := (S (sl a0 0 x5_1))) rfl rfl)) ?_
          refine TxtE.cons rfl ⟨.same _, trivial⟩ rfl (VOk.g (VOk.asg (d := (S (sl a0 (IntKind.i64.wrap (x5_1 + 1)) (a0.length : Int)))) rfl rfl)) ?_
          exact .done (.rf rfl rfl)
        refine Ok.seq ?_
        refine Ok.seq ?_
        obtain ⟨t7, h8, H⟩ := bindE H
        obtain ⟨t10, h11, H⟩ := bindE H
        refine Ok.region (σ' := ⟨[(6, (S (sl a0 0 x5_1))), (7, (S (sl a0 (IntKind.i64.wrap (x5_1 + 1)) (a0.length : Int)))), (30, (.v (.bool (t7 && t10))))], []⟩) ?_ ?_
        · refine .cv (VOk.mv (d := (S (sl a0 0 x5_1))) rfl rfl) rfl rfl ?_
          refine .cg (GOk.call rfl rfl cl29 rfl (watchbillref01_Name.ok h8) rfl) rfl rfl ?_
          refine .cv (VOk.mv (d := (.v (.bool t7))) rfl rfl) rfl rfl ?_
          refine OpsOk.consI rfl rfl rfl (.one rfl) rfl (fun hw9 => (VOk.g (VOk.mv (d := (S (sl a0 (IntKind.i64.wrap (x5_1 + 1)) (a0.length : Int)))) rfl rfl))) ?_
          refine OpsOk.consI rfl rfl rfl (.one rfl) rfl (fun hw9 => (GOk.fr (fr' := [(28, (S (sl a0 (IntKind.i64.wrap (x5_1 + 1)) (a0.length : Int))))]) ⟨DLe.of_eq (cT hw9).symm, trivial⟩ (GOk.call rfl rfl cl29 rfl (watchbillref01_Name.ok (ifT h11 hw9)) rfl))) ?_
          refine .cv (VOk.to (VOk.pickI (b := t7) (p := t10) (q := false) rfl rfl (fun hp12 => (cT (t_beq hp12))) (fun hp12 => rfl)) (pickAnd t7 t10)) rfl rfl ?_
          exact .done (.rf rfl rfl)
        refine Ok.test (b := (t7 && t10)) rfl (fun hb13 => ?_) (fun hb13 => ?_)
        · replace H := ifT H hb13
          refine Ok.seq ?_
          refine Ok.region (σ' := ⟨[(2, (S (sl a0 0 x5_1))), (3, (S (sl a0 (IntKind.i64.wrap (x5_1 + 1)) (a0.length : Int)))), (4, (.v (.bool true)))], []⟩) ?_ ?_
          · refine .cv (VOk.mv (d := (S (sl a0 0 x5_1))) rfl rfl) rfl rfl ?_
            refine .cv (VOk.mv (d := (S (sl a0 (IntKind.i64.wrap (x5_1 + 1)) (a0.length : Int)))) rfl rfl) rfl rfl ?_
            refine .cv (VOk.asg (d := (S (sl a0 0 x5_1))) rfl rfl) rfl rfl ?_
            refine .cv (VOk.asg (d := (S (sl a0 (IntKind.i64.wrap (x5_1 + 1)) (a0.length : Int)))) rfl rfl) rfl rfl ?_
            refine .cv (VOk.asg (d := (.v (.bool true))) rfl rfl) rfl rfl ?_
            exact .done (.rf rfl rfl)
          refine Ok.ret ?_
          obtain rfl := Option.some.inj H
          exact ⟨.inl rfl, ⟨_, (.cons (.tmp rfl) (.cons (.tmp rfl) (.cons (.tmp rfl) .nil))), rfl⟩, trivial⟩
        · replace H := ifF H hb13
          refine Ok.skip ?_
          refine Ok.seq ?_
          refine Ok.region (σ' := ⟨[(2, (S ([] : Str))), (3, (S ([] : Str))), (4, (.v (.bool false)))], []⟩) ?_ ?_
          · refine .cv (VOk.asg (d := (S ([] : Str))) rfl rfl) rfl rfl ?_
            refine .cv (VOk.asg (d := (S ([] : Str))) rfl rfl) rfl rfl ?_
            refine .cv (VOk.asg (d := (.v (.bool false))) rfl rfl) rfl rfl ?_
            exact .done (.rf rfl rfl)
          refine Ok.ret ?_
          obtain rfl := Option.some.inj H
          exact ⟨.inl rfl, ⟨_, (.cons (.tmp rfl) (.cons (.tmp rfl) (.cons (.tmp rfl) .nil))), rfl⟩, trivial⟩
      · replace H := ifF H hb14
        refine Ok.skip ?_
        refine Ok.region (σ' := ⟨[(0, (S a0)), (5, (.v (.int .i64 (IntKind.i64.wrap (x5_1 + 1)))))], []⟩) ?_ ?_
        · refine .cv (VOk.mv (d := (.v (.int .i64 x5_1))) rfl rfl) rfl rfl ?_
          refine .cv (VOk.arith (op := .add) (k := .i64) (a := x5_1) (b := 1) rfl rfl rfl rfl) rfl rfl ?_
          refine .cv (VOk.asg (d := (.v (.int .i64 (IntKind.i64.wrap (x5_1 + 1))))) rfl rfl) rfl rfl ?_
          exact .done (.rf rfl rfl)
        exact ⟨m3, Nat.lt_succ_self m3, (IntKind.i64.wrap (x5_1 + 1)), rfl, H⟩
    · replace H := ifF H hb18
      refine Ok.exit ?_
      refine Ok.seq ?_
      refine Ok.seq ?_
      obtain ⟨t15, h16, H⟩ := bindE H
      refine Ok.region (σ' := ⟨[(0, (S a0)), (34, (.v (.bool t15)))], []⟩) ?_ ?_
      · refine .cv (VOk.mv (d := (S a0)) rfl rfl) rfl rfl ?_
        refine .cg (GOk.call rfl rfl cl29 rfl (watchbillref01_Name.ok h16) rfl) rfl rfl ?_
        exact .done (.rf rfl rfl)
      refine Ok.test (b := t15) rfl (fun hb17 => ?_) (fun hb17 => ?_)
      · replace H := ifT H hb17
        refine Ok.seq ?_
        refine Ok.region (σ' := ⟨[(2, (S ([] : Str))), (3, (S a0)), (4, (.v (.bool true)))], []⟩) ?_ ?_
        · refine .cv (VOk.mv (d := (S a0)) rfl rfl) rfl rfl ?_
          refine .cv (VOk.asg (d := (S ([] : Str))) rfl rfl) rfl rfl ?_
          refine .cv (VOk.asg (d := (S a0)) rfl rfl) rfl rfl ?_
          refine .cv (VOk.asg (d := (.v (.bool true))) rfl rfl) rfl rfl ?_
          exact .done (.rf rfl rfl)
        refine Ok.ret ?_
        obtain rfl := Option.some.inj H
        exact ⟨.inl rfl, ⟨_, (.cons (.tmp rfl) (.cons (.tmp rfl) (.cons (.tmp rfl) .nil))), rfl⟩, trivial⟩
      · replace H := ifF H hb17
        refine Ok.skip ?_
        refine Ok.seq ?_
        refine Ok.region (σ' := ⟨[(2, (S ([] : Str))), (3, (S ([] : Str))), (4, (.v (.bool false)))], []⟩) ?_ ?_
        · refine .cv (VOk.asg (d := (S ([] : Str))) rfl rfl) rfl rfl ?_
          refine .cv (VOk.asg (d := (S ([] : Str))) rfl rfl) rfl rfl ?_
          refine .cv (VOk.asg (d := (.v (.bool false))) rfl rfl) rfl rfl ?_
          exact .done (.rf rfl rfl)
        refine Ok.ret ?_
        obtain rfl := Option.some.inj H
        exact ⟨.inl rfl, ⟨_, (.cons (.tmp rfl) (.cons (.tmp rfl) (.cons (.tmp rfl) .nil))), rfl⟩, trivial⟩

/-! watchbill/watchbillref02.Resolve: function 19 -/
def watchbillref02_Resolve (k : Nat) (a0 : List T_api_Bind) (a1 : Str) (a2 : Bool) : Option (T_api_Name × Int) := ((watchbillref02_Split k a1).bind fun (t1 : Str × Str × Bool) => (if (!t1.2.2) = true then some ((T_api_Name.mk ([] : Str) ([] : Str)), 12) else (if ((t1.1 == ([] : Str)) && a2) = true then some ((T_api_Name.mk ([] : Str) t1.2.1), 0) else ((watchbillref02_Find k a0 t1.1).bind fun (t5 : Str × Bool) => (if ((!t5.2) || (t1.1 == ([120, 109, 108, 110, 115] : Str))) = true then some ((T_api_Name.mk ([] : Str) ([] : Str)), 13) else some ((T_api_Name.mk t5.1 t1.2.1), 0))))))
theorem watchbillref02_Resolve.ok {k : Nat} {a0 : List T_api_Bind} {a1 : Str} {a2 : Bool} {r : T_api_Name × Int} (H : watchbillref02_Resolve k a0 a1 a2 = some r) : Vx.Fn Try.prog 19 [(L 2 e_api_Bind a0), (S a1), (.v (.bool a2))] [] (.tup [(.agg (e_api_Name r.1)), (.v (.int .i64 r.2))]) [] := by
  unfold watchbillref02_Resolve at H
  refine Vx.Fn.of_okR Try.func19 rfl (Nat.le_of_ble_eq_true rfl) ?_
  refine Ok.seq ?_
  refine Ok.region (σ' := ⟨[(0, (L 2 e_api_Bind a0)), (1, (S a1)), (2, (.v (.bool a2))), (6, (.bref 6 0))], [(6, (.box .ex [(S ([] : Str)), (S ([] : Str))]))]⟩) ?_ ?_
  · refine OpsOk.cons rfl (OpOk.alloc 6 [none, none] rfl zo40 rfl rfl) ?_
    refine .cv (VOk.asg (d := (.v (.int .i64 0))) rfl rfl) rfl rfl ?_
    exact .done (.rf rfl rfl)
  refine Ok.seq ?_
  obtain ⟨t1, h2, H⟩ := bindE H
  refine Ok.region (σ' := ⟨[(0, (L 2 e_api_Bind a0)), (2, (.v (.bool a2))), (6, (.bref 6 0)), (8, (S t1.1)), (9, (S t1.2.1)), (10, (.v (.bool t1.2.2)))], [(6, (.box .ex [(S ([] : Str)), (S ([] : Str))]))]⟩) ?_ ?_
  · refine .cv (VOk.mv (d := (S a1)) rfl rfl) rfl rfl ?_
    refine .cg (GOk.call rfl rfl cl11 rfl (watchbillref02_Split.ok h2) rfl) rfl rfl ?_
    refine .cv (VOk.mv (d := (.tup [(S t1.1), (S t1.2.1), (.v (.bool t1.2.2))])) rfl rfl) rfl rfl ?_
    refine .cv (VOk.extract (d := (S t1.1)) rfl rfl rfl) rfl rfl ?_
    refine .cv (VOk.extract (d := (S t1.2.1)) rfl rfl rfl) rfl rfl ?_
    refine .cv (VOk.extract (d := (.v (.bool t1.2.2))) rfl rfl rfl) rfl rfl ?_
    refine .cv (VOk.asg (d := (S t1.1)) rfl rfl) rfl rfl ?_
    refine .cv (VOk.asg (d := (S t1.2.1)) rfl rfl) rfl rfl ?_
    refine .cv (VOk.asg (d := (.v (.bool t1.2.2))) rfl rfl) rfl rfl ?_
    exact .done (.rf rfl rfl)
  refine Ok.seq ?_
  refine Ok.seq ?_
  refine Ok.region (σ' := ⟨[(0, (L 2 e_api_Bind a0)), (2, (.v (.bool a2))), (6, (.bref 6 0)), (8, (S t1.1)), (9, (S t1.2.1)), (20, (.v (.bool (!t1.2.2))))], [(6, (.box .ex [(S ([] : Str)), (S ([] : Str))]))]⟩) ?_ ?_
  · refine .cv (VOk.mv (d := (.v (.bool t1.2.2))) rfl rfl) rfl rfl ?_
    refine .cv (VOk.not (b := t1.2.2) rfl rfl) rfl rfl ?_
    exact .done (.rf rfl rfl)
  refine Ok.test (b := (!t1.2.2)) rfl (fun hb11 => ?_) (fun hb11 => ?_)
  · replace H := ifT H hb11
    refine Ok.seq ?_
    refine Ok.region (σ' := ⟨[(6, (.bref 6 0)), (7, (.v (.int .i64 12)))], [(6, (.box .ex [(S ((T_api_Name.mk ([] : Str) ([] : Str)).Space)), (S ((T_api_Name.mk ([] : Str) ([] : Str)).Local))]))]⟩) ?_ ?_
    · refine .cv (VOk.to (d' := (.agg (e_api_Name (T_api_Name.mk ([] : Str) ([] : Str))))) (.build [none, none] [(0, 1), (1, 1)] rfl Try.underlying40 (fa40 Try.underlying40) zo40 rfl rfl) rfl) rfl rfl ?_
      refine OpsOk.cons rfl (OpOk.to (σ2 := St.put ⟨_, (6, (.box .ex [(S ((T_api_Name.mk ([] : Str) ([] : Str)).Space)), (S ((T_api_Name.mk ([] : Str) ([] : Str)).Local))])) :: _⟩ _ .junk) (.storeB rfl sz40 rfl rfl rfl rfl rfl rfl) rfl) ?_
      refine .cv (VOk.asg (d := (.v (.int .i64 12))) rfl rfl) rfl rfl ?_
      exact .done (.rf rfl rfl)
    refine Ok.ret ?_
    obtain rfl := Option.some.inj H
    exact ⟨.inl rfl, ⟨_, (.cons (.cell (VOk.to (d' := (.agg (e_api_Name (T_api_Name.mk ([] : Str) ([] : Str))))) (.loadBAgg rfl Try.underlying40 rfl sz40 rfl rfl rfl) rfl)) (.cons (.tmp rfl) .nil)), rfl⟩, trivial⟩
  · replace H := ifF H hb11
    refine Ok.skip ?_
    refine Ok.seq ?_
    refine Ok.seq ?_
    refine Ok.region (σ' := ⟨[(0, (L 2 e_api_Bind a0)), (6, (.bref 6 0)), (8, (S t1.1)), (9, (S t1.2.1)), (26, (.v (.bool ((t1.1 == ([] : Str)) && a2))))], [(6, (.box .ex [(S ([] : Str)), (S ([] : Str))]))]⟩) ?_ ?_
    · refine .cv (VOk.mv (d := (S t1.1)) rfl rfl) rfl rfl ?_
      refine .cv (VOk.strOp (op := .eql) (a := t1.1) (b := ([] : Str)) rfl rfl rfl rfl) rfl rfl ?_
      refine .cv (VOk.mv (d := (.v (.bool (t1.1 == ([] : Str))))) rfl rfl) rfl rfl ?_
      refine OpsOk.consI rfl rfl rfl (.one rfl) rfl (fun hw3 => (VOk.g (VOk.mv (d := (.v (.bool a2))) rfl rfl))) ?_
      refine .cv (VOk.to (VOk.pickI (b := (t1.1 == ([] : Str))) (p := a2) (q := false) rfl rfl (fun hp4 => (cT (t_beq hp4))) (fun hp4 => rfl)) (pickAnd (t1.1 == ([] : Str)) a2)) rfl rfl ?_
      exact .done (.rf rfl rfl)
    refine Ok.test (b := ((t1.1 == ([] : Str)) && a2)) rfl (fun hb10 => ?_) (fun hb10 => ?_)
    · replace H := ifT H hb10
      refine Ok.seq ?_
      refine Ok.region (σ' := ⟨[(6, (.bref 6 0)), (7, (.v (.int .i64 0)))], [(6, (.box .ex [(S ((T_api_Name.mk ([] : Str) t1.2.1).Space)), (S ((T_api_Name.mk ([] : Str) t1.2.1).Local))]))]⟩) ?_ ?_
      · refine .cv (VOk.mv (d := (S t1.2.1)) rfl rfl) rfl rfl ?_
        refine .cv (VOk.to (d' := (.agg (e_api_Name (T_api_Name.mk ([] : Str) t1.2.1)))) (.build [none, none] [(0, 1), (1, 1)] rfl Try.underlying40 (fa40 Try.underlying40) zo40 rfl rfl) rfl) rfl rfl ?_
        refine OpsOk.cons rfl (OpOk.to (σ2 := St.put ⟨_, (6, (.box .ex [(S ((T_api_Name.mk ([] : Str) t1.2.1).Space)), (S ((T_api_Name.mk ([] : Str) t1.2.1).Local))])) :: _⟩ _ .junk) (.storeB rfl sz40 rfl rfl rfl rfl rfl rfl) rfl) ?_
        refine .cv (VOk.asg (d := (.v (.int .i64 0))) rfl rfl) rfl rfl ?_
        exact .done (.rf rfl rfl)
      refine Ok.ret ?_
      obtain rfl := Option.some.inj H
      exact ⟨.inl rfl, ⟨_, (.cons (.cell (VOk.to (d' := (.agg (e_api_Name (T_api_Name.mk ([] : Str) t1.2.1)))) (.loadBAgg rfl Try.underlying40 rfl sz40 rfl rfl rfl) rfl)) (.cons (.tmp rfl) .nil)), rfl⟩, trivial⟩
    · replace H := ifF H hb10
      refine Ok.skip ?_
      refine Ok.seq ?_
      obtain ⟨t5, h6, H⟩ := bindE H
      refine Ok.region (σ' := ⟨[(6, (.bref 6 0)), (8, (S t1.1)), (9, (S t1.2.1)), (11, (S t5.1)), (12, (.v (.bool t5.2)))], [(6, (.box .ex [(S ([] : Str)), (S ([] : Str))]))]⟩) ?_ ?_
      · refine .cv (VOk.mv (d := (L 2 e_api_Bind a0)) rfl rfl) rfl rfl ?_
        refine .cv (VOk.mv (d := (S t1.1)) rfl rfl) rfl rfl ?_
        refine .cg (GOk.call rfl rfl cl17 rfl (watchbillref02_Find.ok h6) rfl) rfl rfl ?_
        refine .cv (VOk.mv (d := (.tup [(S t5.1), (.v (.bool t5.2))])) rfl rfl) rfl rfl ?_
        refine .cv (VOk.extract (d := (S t5.1)) rfl rfl rfl) rfl rfl ?_
        refine .cv (VOk.extract (d := (.v (.bool t5.2))) rfl rfl rfl) rfl rfl ?_
        refine .cv (VOk.asg (d := (S t5.1)) rfl rfl) rfl rfl ?_
        refine .cv (VOk.asg (d := (.v (.bool t5.2))) rfl rfl) rfl rfl ?_
        exact .done (.rf rfl rfl)
      refine Ok.seq ?_
      refine Ok.seq ?_
      refine Ok.region (σ' := ⟨[(6, (.bref 6 0)), (9, (S t1.2.1)), (11, (S t5.1)), (40, (.v (.bool ((!t5.2) || (t1.1 == ([120, 109, 108, 110, 115] : Str))))))], [(6, (.box .ex [(S ([] : Str)), (S ([] : Str))]))]⟩) ?_ ?_
      · refine .cv (VOk.mv (d := (.v (.bool t5.2))) rfl rfl) rfl rfl ?_
        refine .cv (VOk.not (b := t5.2) rfl rfl) rfl rfl ?_
        refine .cv (VOk.mv (d := (.v (.bool (!t5.2)))) rfl rfl) rfl rfl ?_
        refine OpsOk.consI rfl rfl rfl (.one rfl) rfl (fun hw7 => (VOk.g (VOk.mv (d := (S t1.1)) rfl rfl))) ?_
        refine OpsOk.consI rfl rfl rfl (.one rfl) rfl (fun hw7 => (GOk.fr (fr' := [(38, (S t1.1))]) ⟨DLe.of_eq (cT hw7).symm, trivial⟩ (VOk.g (VOk.strOp (op := .eql) (a := t1.1) (b := ([120, 109, 108, 110, 115] : Str)) rfl rfl rfl rfl)))) ?_
        refine .cv (VOk.to (VOk.pickI (b := (!t5.2)) (p := true) (q := (t1.1 == ([120, 109, 108, 110, 115] : Str))) rfl rfl (fun hp8 => rfl) (fun hp8 => (cT (f_beq hp8)))) (pickOr (!t5.2) (t1.1 == ([120, 109, 108, 110, 115] : Str)))) rfl rfl ?_
        exact .done (.rf rfl rfl)
      refine Ok.test (b := ((!t5.2) || (t1.1 == ([120, 109, 108, 110, 115] : Str)))) rfl (fun hb9 => ?_) (fun hb9 => ?_)
      · replace H := ifT H hb9
        refine Ok.seq ?_
        refine Ok.region (σ' := ⟨[(6, (.bref 6 0)), (7, (.v (.int .i64 13)))], [(6, (.box .ex [(S ((T_api_Name.mk ([] : Str) ([] : Str)).Space)), (S ((T_api_Name.mk ([] : Str) ([] : Str)).Local))]))]⟩) ?_ ?_
        · refine .cv (VOk.to (d' := (.agg (e_api_Name (T_api_Name.mk ([] : Str) ([] : Str))))) (.build [none, none] [(0, 1), (1, 1)] rfl Try.underlying40 (fa40 Try.underlying40) zo40 rfl rfl) rfl) rfl rfl ?_
          refine OpsOk.cons rfl (OpOk.to (σ2 := St.put ⟨_, (6, (.box .ex [(S ((T_api_Name.mk ([] : Str) ([] : Str)).Space)), (S ((T_api_Name.mk ([] : Str) ([] : Str)).Local))])) :: _⟩ _ .junk) (.storeB rfl sz40 rfl rfl rfl rfl rfl rfl) rfl) ?_
          refine .cv (VOk.asg (d := (.v (.int .i64 13))) rfl rfl) rfl rfl ?_
          exact .done (.rf rfl rfl)
        refine Ok.ret ?_
        obtain rfl := Option.some.inj H
        exact ⟨.inl rfl, ⟨_, (.cons (.cell (VOk.to (d' := (.agg (e_api_Name (T_api_Name.mk ([] : Str) ([] : Str))))) (.loadBAgg rfl Try.underlying40 rfl sz40 rfl rfl rfl) rfl)) (.cons (.tmp rfl) .nil)), rfl⟩, trivial⟩
      · replace H := ifF H hb9
        refine Ok.skip ?_
        refine Ok.seq ?_
        refine Ok.region (σ' := ⟨[(6, (.bref 6 0)), (7, (.v (.int .i64 0)))], [(6, (.box .ex [(S ((T_api_Name.mk t5.1 t1.2.1).Space)), (S ((T_api_Name.mk t5.1 t1.2.1).Local))]))]⟩) ?_ ?_
        · refine .cv (VOk.mv (d := (S t5.1)) rfl rfl) rfl rfl ?_
          refine .cv (VOk.mv (d := (S t1.2.1)) rfl rfl) rfl rfl ?_
          refine .cv (VOk.to (d' := (.agg (e_api_Name (T_api_Name.mk t5.1 t1.2.1)))) (.build [none, none] [(0, 1), (1, 1)] rfl Try.underlying40 (fa40 Try.underlying40) zo40 rfl rfl) rfl) rfl rfl ?_
          refine OpsOk.cons rfl (OpOk.to (σ2 := St.put ⟨_, (6, (.box .ex [(S ((T_api_Name.mk t5.1 t1.2.1).Space)), (S ((T_api_Name.mk t5.1 t1.2.1).Local))])) :: _⟩ _ .junk) (.storeB rfl sz40 rfl rfl rfl rfl rfl rfl) rfl) ?_
          refine .cv (VOk.asg (d := (.v (.int .i64 0))) rfl rfl) rfl rfl ?_
          exact .done (.rf rfl rfl)
        refine Ok.ret ?_
        obtain rfl := Option.some.inj H
        exact ⟨.inl rfl, ⟨_, (.cons (.cell (VOk.to (d' := (.agg (e_api_Name (T_api_Name.mk t5.1 t1.2.1)))) (.loadBAgg rfl Try.underlying40 rfl sz40 rfl rfl rfl) rfl)) (.cons (.tmp rfl) .nil)), rfl⟩, trivial⟩

/-! watchbill/watchbilllaw02.QnameResolves: function 5 -/
def watchbilllaw02_QnameResolves (k : Nat) (a0 : List T_api_Bind) (a1 : Str) (a2 : Bool) : Option Bool := ((watchbilllaw02_awake k).bind fun (t1 : Bool) => (if (!t1) = true then some false else ((watchbilllaw02_Few k a0).bind fun (t3 : Bool) => (if ((!t3) || (decide ((a1.length : Int) > 3000))) = true then some true else ((qname_Resolve k a0 a1 a2).bind fun (t7 : T_api_Name × Int) => ((watchbillref02_Resolve k a0 a1 a2).bind fun (t9 : T_api_Name × Int) => some ((t7.1.Space == t9.1.Space && (t7.1.Local == t9.1.Local && true)) && (t7.2 == t9.2))))))))
theorem watchbilllaw02_QnameResolves.ok {k : Nat} {a0 : List T_api_Bind} {a1 : Str} {a2 : Bool} {r : Bool} (H : watchbilllaw02_QnameResolves k a0 a1 a2 = some r) : Vx.Fn Try.prog 5 [(L 2 e_api_Bind a0), (S a1), (.v (.bool a2))] [] (.v (.bool r)) [] := by
  unfold watchbilllaw02_QnameResolves at H
  refine Vx.Fn.of_okR Try.func5 rfl (Nat.le_of_ble_eq_true rfl) ?_
  refine Ok.seq ?_
  refine Ok.region (σ' := ⟨[(0, (L 2 e_api_Bind a0)), (1, (S a1)), (2, (.v (.bool a2)))], []⟩) ?_ ?_
  · refine .cv (VOk.asg (d := (.v (.bool false))) rfl rfl) rfl rfl ?_
    exact .done (.rf rfl rfl)
  refine Ok.seq ?_
  refine Ok.seq ?_
  obtain ⟨t1, h2, H⟩ := bindE H
  refine Ok.region (σ' := ⟨[(0, (L 2 e_api_Bind a0)), (1, (S a1)), (2, (.v (.bool a2))), (12, (.v (.bool (!t1))))], []⟩) ?_ ?_
  · refine .cg (GOk.call rfl rfl cl9 rfl (watchbilllaw02_awake.ok h2) rfl) rfl rfl ?_
    refine .cv (VOk.not (b := t1) rfl rfl) rfl rfl ?_
    exact .done (.rf rfl rfl)
  refine Ok.test (b := (!t1)) rfl (fun hb14 => ?_) (fun hb14 => ?_)
  · replace H := ifT H hb14
    refine Ok.seq ?_
    refine Ok.region (σ' := ⟨[(6, (.v (.bool false)))], []⟩) ?_ ?_
    · refine .cv (VOk.asg (d := (.v (.bool false))) rfl rfl) rfl rfl ?_
      exact .done (.rf rfl rfl)
    refine Ok.ret ?_
    obtain rfl := Option.some.inj H
    exact ⟨.inl rfl, ⟨_, (.cons (.tmp rfl) .nil), rfl⟩, trivial⟩
  · replace H := ifF H hb14
    refine Ok.skip ?_
    refine Ok.seq ?_
    refine Ok.seq ?_
    obtain ⟨t3, h4, H⟩ := bindE H
    refine Ok.region (σ' := ⟨[(0, (L 2 e_api_Bind a0)), (1, (S a1)), (2, (.v (.bool a2))), (20, (.v (.bool ((!t3) || (decide ((a1.length : Int) > 3000))))))], []⟩) ?_ ?_
    · refine .cv (VOk.mv (d := (L 2 e_api_Bind a0)) rfl rfl) rfl rfl ?_
      refine .cg (GOk.call rfl rfl cl12 rfl (watchbilllaw02_Few.ok h4) rfl) rfl rfl ?_
      refine .cv (VOk.not (b := t3) rfl rfl) rfl rfl ?_
      refine .cv (VOk.mv (d := (.v (.bool (!t3)))) rfl rfl) rfl rfl ?_
      refine OpsOk.consI rfl rfl rfl (.one rfl) rfl (fun hw5 => (VOk.g (VOk.mv (d := (S a1)) rfl rfl))) ?_
      refine OpsOk.consI rfl rfl rfl (.one rfl) rfl (fun hw5 => (GOk.fr (fr' := [(17, (S a1))]) ⟨DLe.of_eq (cT hw5).symm, trivial⟩ (VOk.g (VOk.lenStr (s := a1) rfl Try.underlying9 rfl)))) ?_
      refine OpsOk.consI rfl rfl rfl (.one rfl) rfl (fun hw5 => (GOk.fr (fr' := [(18, (.v (.int .i64 (a1.length : Int))))]) ⟨DLe.of_eq (cT hw5).symm, trivial⟩ (VOk.g (VOk.arith (op := .gtr) (k := .i64) (a := (a1.length : Int)) (b := 3000) rfl rfl rfl rfl)))) ?_
      refine .cv (VOk.to (VOk.pickI (b := (!t3)) (p := true) (q := (decide ((a1.length : Int) > 3000))) rfl rfl (fun hp6 => rfl) (fun hp6 => (cT (f_beq hp6)))) (pickOr (!t3) (decide ((a1.length : Int) > 3000)))) rfl rfl ?_
      exact .done (.rf rfl rfl)
    refine Ok.test (b := ((!t3) || (decide ((a1.length : Int) > 3000)))) rfl (fun hb13 => ?_) (fun hb13 => ?_)
    · replace H := ifT H hb13
      refine Ok.seq ?_
      refine Ok.region (σ' := ⟨[(6, (.v (.bool true)))], []⟩) ?_ ?_
      · refine .cv (VOk.asg (d := (.v (.bool true))) rfl rfl) rfl rfl ?_
        exact .done (.rf rfl rfl)
      refine Ok.ret ?_
      obtain rfl := Option.some.inj H
      exact ⟨.inl rfl, ⟨_, (.cons (.tmp rfl) .nil), rfl⟩, trivial⟩
    · replace H := ifF H hb13
      refine Ok.skip ?_
      refine Ok.seq ?_
      obtain ⟨t7, h8, H⟩ := bindE H
      refine Ok.region (σ' := ⟨[(0, (L 2 e_api_Bind a0)), (1, (S a1)), (2, (.v (.bool a2))), (7, (.bref 7 0)), (8, (.v (.int .i64 t7.2)))], [(7, (.box .ex [(S t7.1.Space), (S t7.1.Local)]))]⟩) ?_ ?_
      · refine .cv (VOk.mv (d := (L 2 e_api_Bind a0)) rfl rfl) rfl rfl ?_
        refine .cv (VOk.mv (d := (S a1)) rfl rfl) rfl rfl ?_
        refine .cv (VOk.mv (d := (.v (.bool a2))) rfl rfl) rfl rfl ?_
        refine .cg (GOk.call rfl rfl cl18 rfl (qname_Resolve.ok h8) rfl) rfl rfl ?_
        refine .cv (VOk.mv (d := (.tup [(.agg (e_api_Name t7.1)), (.v (.int .i64 t7.2))])) rfl rfl) rfl rfl ?_
        refine .cv (VOk.extract (d := (.agg (e_api_Name t7.1))) rfl rfl rfl) rfl rfl ?_
        refine .cv (VOk.extract (d := (.v (.int .i64 t7.2))) rfl rfl rfl) rfl rfl ?_
        refine OpsOk.cons rfl (OpOk.alloc 7 [none, none] rfl zo40 rfl rfl) ?_
        refine OpsOk.cons rfl (OpOk.to (σ2 := St.put ⟨_, (7, (.box .ex [(S t7.1.Space), (S t7.1.Local)])) :: _⟩ _ .junk) (.storeB rfl sz40 rfl rfl rfl rfl rfl rfl) rfl) ?_
        refine .cv (VOk.asg (d := (.v (.int .i64 t7.2))) rfl rfl) rfl rfl ?_
        exact .done (.rf rfl rfl)
      refine Ok.seq ?_
      obtain ⟨t9, h10, H⟩ := bindE H
      refine Ok.region (σ' := ⟨[(7, (.bref 7 0)), (8, (.v (.int .i64 t7.2))), (9, (.bref 9 0)), (10, (.v (.int .i64 t9.2)))], [(7, (.box .ex [(S t7.1.Space), (S t7.1.Local)])), (9, (.box .ex [(S t9.1.Space), (S t9.1.Local)]))]⟩) ?_ ?_
      · refine .cv (VOk.mv (d := (L 2 e_api_Bind a0)) rfl rfl) rfl rfl ?_
        refine .cv (VOk.mv (d := (S a1)) rfl rfl) rfl rfl ?_
        refine .cv (VOk.mv (d := (.v (.bool a2))) rfl rfl) rfl rfl ?_
        refine .cg (GOk.call rfl rfl cl19 rfl (watchbillref02_Resolve.ok h10) rfl) rfl rfl ?_
        refine .cv (VOk.mv (d := (.tup [(.agg (e_api_Name t9.1)), (.v (.int .i64 t9.2))])) rfl rfl) rfl rfl ?_
        refine .cv (VOk.extract (d := (.agg (e_api_Name t9.1))) rfl rfl rfl) rfl rfl ?_
        refine .cv (VOk.extract (d := (.v (.int .i64 t9.2))) rfl rfl rfl) rfl rfl ?_
        refine OpsOk.cons rfl (OpOk.alloc 9 [none, none] rfl zo40 rfl rfl) ?_
        refine OpsOk.cons rfl (OpOk.to (σ2 := St.put ⟨_, (9, (.box .ex [(S t9.1.Space), (S t9.1.Local)])) :: _⟩ _ .junk) (.storeB rfl sz40 rfl rfl rfl rfl rfl rfl) rfl) ?_
        refine .cv (VOk.asg (d := (.v (.int .i64 t9.2))) rfl rfl) rfl rfl ?_
        exact .done (.rf rfl rfl)
      refine Ok.seq ?_
      refine Ok.region (σ' := ⟨[(6, (.v (.bool ((t7.1.Space == t9.1.Space && (t7.1.Local == t9.1.Local && true)) && (t7.2 == t9.2)))))], []⟩) ?_ ?_
      · refine .cv (VOk.to (d' := (.agg (e_api_Name t7.1))) (.loadBAgg rfl Try.underlying40 rfl sz40 rfl rfl rfl) rfl) rfl rfl ?_
        refine .cv (VOk.to (d' := (.agg (e_api_Name t9.1))) (.loadBAgg rfl Try.underlying40 rfl sz40 rfl rfl rfl) rfl) rfl rfl ?_
        refine .cv (VOk.eqS' (op := .eql) (d := (.v (.bool (t7.1.Space == t9.1.Space && (t7.1.Local == t9.1.Local && true))))) rfl (.inl rfl) (eqt40 9998) ag40 eg40 rfl rfl rfl rfl) rfl rfl ?_
        refine .cv (VOk.mv (d := (.v (.bool (t7.1.Space == t9.1.Space && (t7.1.Local == t9.1.Local && true))))) rfl rfl) rfl rfl ?_
        refine OpsOk.consI rfl rfl rfl (.one rfl) rfl (fun hw11 => (VOk.g (VOk.mv (d := (.v (.int .i64 t7.2))) rfl rfl))) ?_
        refine OpsOk.consI rfl rfl rfl (.one rfl) rfl (fun hw11 => (VOk.g (VOk.mv (d := (.v (.int .i64 t9.2))) rfl rfl))) ?_
        refine OpsOk.consI rfl rfl rfl (.one rfl) rfl (fun hw11 => (GOk.fr (fr' := [(39, (.v (.int .i64 t7.2))), (40, (.v (.int .i64 t9.2)))]) ⟨DLe.of_eq (cT hw11).symm, DLe.of_eq (cT hw11).symm, trivial⟩ (VOk.g (VOk.arith (op := .eql) (k := .i64) (a := t7.2) (b := t9.2) rfl rfl rfl rfl)))) ?_
        refine .cv (VOk.to (VOk.pickI (b := (t7.1.Space == t9.1.Space && (t7.1.Local == t9.1.Local && true))) (p := (t7.2 == t9.2)) (q := false) rfl rfl (fun hp12 => (cT (t_beq hp12))) (fun hp12 => rfl)) (pickAnd (t7.1.Space == t9.1.Space && (t7.1.Local == t9.1.Local && true)) (t7.2 == t9.2))) rfl rfl ?_
        refine .cv (VOk.asg (d := (.v (.bool ((t7.1.Space == t9.1.Space && (t7.1.Local == t9.1.Local && true)) && (t7.2 == t9.2))))) rfl rfl) rfl rfl ?_
        exact .done (.rf rfl rfl)
      refine Ok.ret ?_
      obtain rfl := Option.some.inj H
      exact ⟨.inl rfl, ⟨_, (.cons (.tmp rfl) .nil), rfl⟩, trivial⟩

end Go.Proofs.Ythiopccchgkjcaa.Sh
