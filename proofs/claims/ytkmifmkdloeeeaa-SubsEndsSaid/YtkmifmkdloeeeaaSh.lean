import Derived.Test.YtkmifmkdloeeeaaProg
import Derived.Test.YtkmifmkdloeeeaaShb
namespace Go.Proofs.Ytkmifmkdloeeeaa.Sh
open Go Go.RowKit Go.Proofs.Vx
set_option linter.unusedVariables false

set_option maxRecDepth 100000
set_option maxHeartbeats 1000000
/-! watchbill/watchbilllaw27.SubsLeast: function 6 -/
def watchbilllaw27_SubsLeast.j1 (k : Nat) (c0 : Str → Int → Bool → List T_api_Row → List T_api_Row → Int → Option Bool) (a1 : List T_watchbilllaw27_Step) (x7_8 : Int) (t24 : T_api_Body × Bool × Int × T_subs_Sub) (y9_0_35 : Str) (y9_1_36 : Int) (y9_2_37 : Bool) (y9_3_38 : List T_api_Row) (y21_0_39 : Str) (y21_1_40 : Int) (y21_2_41 : Bool) (y21_3_42 : List T_api_Row) : Option Bool := (((if ((t24.2.1 && y9_2_37) == true) = true then watchbillref24_Rows k y9_3_38 ((rd a1 x7_8).Rows) else some default)).bind fun (t46 : Bool) => (if ((t24.2.1 && y9_2_37) && (!t46)) = true then some false else c0 y21_0_39 y21_1_40 y21_2_41 y21_3_42 ((rd a1 x7_8).Rows) (IntKind.i64.wrap (x7_8 + 1))))
def watchbilllaw27_SubsLeast.l2 (k : Nat) (c0 : Str → Int → Bool → List T_api_Row → List T_api_Row → Int → Option Bool) (a1 : List T_watchbilllaw27_Step) (x6_7 : List T_api_Row) (x7_8 : Int) (t24 : T_api_Body × Bool × Int × T_subs_Sub) : Nat → Str → Int → Bool → List T_api_Row → Str → Int → Bool → List T_api_Row → Int → Int → Option Bool
  | 0, _, _, _, _, _, _, _, _, _, _ => none
  | m72 + 1, y21_0_58, y21_1_59, y21_2_60, y21_3_61, y9_0_54, y9_1_55, y9_2_56, y9_3_57, x13_52, x14_53 => (if (decide (x14_53 < (((rd a1 x7_8).Rows).length : Int))) = true then (if (((decide (x14_53 ≥ (x6_7.length : Int))) == false) = true → (0 : Int) ≤ x14_53 ∧ x14_53 < (((rd a1 x7_8).Rows).length : Int)) then (if (((decide (x14_53 ≥ (x6_7.length : Int))) == false) = true → (0 : Int) ≤ x14_53 ∧ x14_53 < (x6_7.length : Int)) then (if ((decide (x14_53 ≥ (x6_7.length : Int))) || (!((rd ((rd a1 x7_8).Rows) x14_53).URI == (rd x6_7 x14_53).URI && ((rd ((rd a1 x7_8).Rows) x14_53).Name == (rd x6_7 x14_53).Name && ((rd ((rd a1 x7_8).Rows) x14_53).State == (rd x6_7 x14_53).State && ((rd ((rd a1 x7_8).Rows) x14_53).Body == (rd x6_7 x14_53).Body && true)))))) = true then (if (((decide (x13_52 ≥ (y9_3_57.length : Int))) == false) = true → (0 : Int) ≤ x13_52 ∧ x13_52 < (y9_3_57.length : Int)) then (if (((decide (x13_52 ≥ (y9_3_57.length : Int))) == false) = true → (0 : Int) ≤ x14_53 ∧ x14_53 < (((rd a1 x7_8).Rows).length : Int)) then (if ((decide (x13_52 ≥ (y9_3_57.length : Int))) || (!((rd y9_3_57 x13_52).URI == (rd ((rd a1 x7_8).Rows) x14_53).URI && ((rd y9_3_57 x13_52).Name == (rd ((rd a1 x7_8).Rows) x14_53).Name && ((rd y9_3_57 x13_52).State == (rd ((rd a1 x7_8).Rows) x14_53).State && ((rd y9_3_57 x13_52).Body == (rd ((rd a1 x7_8).Rows) x14_53).Body && true)))))) = true then some false else watchbilllaw27_SubsLeast.l2 k c0 a1 x6_7 x7_8 t24 m72 y21_0_58 y21_1_59 y21_2_60 y21_3_61 y9_0_54 y9_1_55 y9_2_56 y9_3_57 (IntKind.i64.wrap (x13_52 + 1)) (IntKind.i64.wrap (x14_53 + 1))) else none) else none) else watchbilllaw27_SubsLeast.l2 k c0 a1 x6_7 x7_8 t24 m72 y21_0_58 y21_1_59 y21_2_60 y21_3_61 y9_0_54 y9_1_55 y9_2_56 y9_3_57 x13_52 (IntKind.i64.wrap (x14_53 + 1))) else none) else none) else (if (((x13_52 != (y9_3_57.length : Int)) || (x13_52 == 0)) || (decide ((x6_7.length : Int) > (((rd a1 x7_8).Rows).length : Int)))) = true then some false else watchbilllaw27_SubsLeast.j1 k (c0) a1 x7_8 t24 y9_0_54 y9_1_55 y9_2_56 y9_3_57 y21_0_58 y21_1_59 y21_2_60 y21_3_61))
def watchbilllaw27_SubsLeast.l0 (k : Nat) (a1 : List T_watchbilllaw27_Step) : Nat → Str → Int → Bool → List T_api_Row → List T_api_Row → Int → Option Bool
  | 0, _, _, _, _, _, _ => none
  | m19 + 1, y21_0_9, y21_1_10, y21_2_11, y21_3_12, x6_7, x7_8 => (if (decide (x7_8 < (a1.length : Int))) = true then (if (0 : Int) ≤ x7_8 ∧ x7_8 < (a1.length : Int) then ((watchbilllaw27_twice k ((rd a1 x7_8).Rows)).bind fun (t21 : Bool) => (if t21 = true then some true else (if (0 : Int) ≤ x7_8 ∧ x7_8 < (a1.length : Int) then ((subs_Sub_Next k (T_subs_Sub.mk y21_0_9 y21_1_10 y21_2_11 y21_3_12) ((rd a1 x7_8).Rows) ((rd a1 x7_8).Full)).bind fun (t24 : T_api_Body × Bool × Int × T_subs_Sub) => (((if ((decide (x7_8 > 0)) == true) = true then watchbillref24_Rows k x6_7 ((rd a1 x7_8).Rows) else some default)).bind fun (t27 : Bool) => (if (((x7_8 == 0) == false) = true → (0 : Int) ≤ x7_8 ∧ x7_8 < (a1.length : Int)) then (if (!(t24.2.1 == (((x7_8 == 0) || ((rd a1 x7_8).Full)) || (!((decide (x7_8 > 0)) && t27))))) = true then some false else (if (t24.2.1 && (!t24.1.Full)) = true then watchbilllaw27_SubsLeast.l2 k (watchbilllaw27_SubsLeast.l0 k a1 m19) a1 x6_7 x7_8 t24 k t24.2.2.2.List_ t24.2.2.2.Next_ t24.2.2.2.Begun_ t24.2.2.2.Rows_ t24.1.List_ t24.1.Version t24.1.Full t24.1.Rows 0 0 else watchbilllaw27_SubsLeast.j1 k (watchbilllaw27_SubsLeast.l0 k a1 m19) a1 x7_8 t24 t24.1.List_ t24.1.Version t24.1.Full t24.1.Rows t24.2.2.2.List_ t24.2.2.2.Next_ t24.2.2.2.Begun_ t24.2.2.2.Rows_)) else none))) else none))) else none) else some true)
def watchbilllaw27_SubsLeast (k : Nat) (a0 : Str) (a1 : List T_watchbilllaw27_Step) : Option Bool := ((watchbilllaw27_awake k).bind fun (t1 : Bool) => (if (!t1) = true then some false else ((watchbilllaw27_Few k a1).bind fun (t3 : Bool) => (if (!t3) = true then some true else ((subs_New a0 0).bind fun (t5 : T_subs_Sub) => watchbilllaw27_SubsLeast.l0 k a1 k t5.List_ t5.Next_ t5.Begun_ t5.Rows_ ([] : List T_api_Row) 0)))))
theorem watchbilllaw27_SubsLeast.ok {k : Nat} {a0 : Str} {a1 : List T_watchbilllaw27_Step} {r : Bool} (H : watchbilllaw27_SubsLeast k a0 a1 = some r) : Vx.Fn Try.prog 6 [(S a0), (L 2 e_watchbilllaw27_Step a1)] [] (.v (.bool r)) [] := by
  unfold watchbilllaw27_SubsLeast at H
  refine Vx.Fn.of_okR Try.func6 rfl (Nat.le_of_ble_eq_true rfl) ?_
  refine Ok.seq ?_
  refine Ok.region (σ' := ⟨[(0, (S a0)), (1, (L 2 e_watchbilllaw27_Step a1))], []⟩) ?_ ?_
  · refine OpsOk.cons rfl (.v (VOk.asg (d := (.v (.bool false))) rfl rfl) rfl) ?_
    exact .done (.mk ⟨.same _, .same _, trivial⟩ trivial)
  refine Ok.seq ?_
  refine Ok.seq ?_
  obtain ⟨t1, h2, H⟩ := bindE H
  refine Ok.region (σ' := ⟨[(0, (S a0)), (1, (L 2 e_watchbilllaw27_Step a1)), (16, (.v (.bool (!t1))))], []⟩) ?_ ?_
  · refine OpsOk.cons rfl (.g (GOk.call rfl rfl cl8 rfl (watchbilllaw27_awake.ok h2) rfl) rfl) ?_
    refine OpsOk.cons rfl (.v (VOk.not (b := t1) rfl rfl) rfl) ?_
    exact .done (.mk ⟨.same _, .same _, .same _, trivial⟩ trivial)
  refine Ok.test (b := (!t1)) rfl (fun hb94 => ?_) (fun hb94 => ?_)
  · replace H := ifT H hb94
    refine Ok.seq ?_
    refine Ok.region (σ' := ⟨[(4, (.v (.bool false)))], []⟩) ?_ ?_
    · refine OpsOk.cons rfl (.v (VOk.asg (d := (.v (.bool false))) rfl rfl) rfl) ?_
      exact .done (.mk ⟨.same _, trivial⟩ trivial)
    refine Ok.le (σ' := ⟨[(4, (.v (.bool false)))], []⟩) (.mk ⟨.same _, trivial⟩ trivial) ?_
    refine Ok.ret ?_
    obtain rfl := Option.some.inj H
    exact ⟨.inl rfl, ⟨_, (.cons (.tmp rfl) .nil), rfl⟩, trivial⟩
  · replace H := ifF H hb94
    refine Ok.le (σ' := ⟨[(0, (S a0)), (1, (L 2 e_watchbilllaw27_Step a1))], []⟩) (.mk ⟨.same _, .same _, trivial⟩ trivial) ?_
    refine Ok.skip ?_
    refine Ok.seq ?_
    refine Ok.seq ?_
    obtain ⟨t3, h4, H⟩ := bindE H
    refine Ok.region (σ' := ⟨[(0, (S a0)), (1, (L 2 e_watchbilllaw27_Step a1)), (19, (.v (.bool (!t3))))], []⟩) ?_ ?_
    · refine OpsOk.cons rfl (.v (VOk.mv (d := (L 2 e_watchbilllaw27_Step a1)) rfl rfl) rfl) ?_
      refine OpsOk.cons rfl (.g (GOk.call rfl rfl cl9 rfl (watchbilllaw27_Few.ok h4) rfl) rfl) ?_
      refine OpsOk.cons rfl (.v (VOk.not (b := t3) rfl rfl) rfl) ?_
      exact .done (.mk ⟨.same _, .same _, .same _, trivial⟩ trivial)
    refine Ok.test (b := (!t3)) rfl (fun hb93 => ?_) (fun hb93 => ?_)
    · replace H := ifT H hb93
      refine Ok.seq ?_
      refine Ok.region (σ' := ⟨[(4, (.v (.bool true)))], []⟩) ?_ ?_
      · refine OpsOk.cons rfl (.v (VOk.asg (d := (.v (.bool true))) rfl rfl) rfl) ?_
        exact .done (.mk ⟨.same _, trivial⟩ trivial)
      refine Ok.le (σ' := ⟨[(4, (.v (.bool true)))], []⟩) (.mk ⟨.same _, trivial⟩ trivial) ?_
      refine Ok.ret ?_
      obtain rfl := Option.some.inj H
      exact ⟨.inl rfl, ⟨_, (.cons (.tmp rfl) .nil), rfl⟩, trivial⟩
    · replace H := ifF H hb93
      refine Ok.le (σ' := ⟨[(0, (S a0)), (1, (L 2 e_watchbilllaw27_Step a1))], []⟩) (.mk ⟨.same _, .same _, trivial⟩ trivial) ?_
      refine Ok.skip ?_
      refine Ok.seq ?_
      obtain ⟨t5, h6, H⟩ := bindE H
      refine Ok.region (σ' := ⟨[(1, (L 2 e_watchbilllaw27_Step a1)), (5, (.bref 21 0))], [(21, (.box .ex [(S t5.List_), (.v (.int .u32 t5.Next_)), (.v (.bool t5.Begun_)), (L 4 e_api_Row t5.Rows_)]))]⟩) ?_ ?_
      · refine OpsOk.cons rfl (.v (VOk.mv (d := (S a0)) rfl rfl) rfl) ?_
        refine OpsOk.cons rfl (OpOk.callP 21 1420 rfl rfl cl10 (subs_New.ok h6) rfl rfl rfl rfl) ?_
        refine OpsOk.cons rfl (.v (VOk.asg (d := (.bref 21 0)) rfl rfl) rfl) ?_
        exact .done (.mk ⟨.same _, .same _, trivial⟩ ⟨.same _, trivial⟩)
      refine Ok.seq ?_
      refine Ok.region (σ' := ⟨[(1, (L 2 e_watchbilllaw27_Step a1)), (5, (.bref 21 0)), (6, (.v (.slice none 0 0)))], [(21, (.box .ex [(S t5.List_), (.v (.int .u32 t5.Next_)), (.v (.bool t5.Begun_)), (L 4 e_api_Row t5.Rows_)]))]⟩) ?_ ?_
      · refine OpsOk.cons rfl (.v (VOk.asg (d := (.v (.slice none 0 0))) rfl rfl) rfl) ?_
        exact .done (.mk ⟨.same _, .same _, .same _, trivial⟩ ⟨.same _, trivial⟩)
      refine Ok.seq ?_
      refine Ok.seq ?_
      refine Ok.region (σ' := ⟨[(1, (L 2 e_watchbilllaw27_Step a1)), (5, (.bref 21 0)), (6, (.v (.slice none 0 0))), (7, (.v (.int .i64 0)))], [(21, (.box .ex [(S t5.List_), (.v (.int .u32 t5.Next_)), (.v (.bool t5.Begun_)), (L 4 e_api_Row t5.Rows_)]))]⟩) ?_ ?_
      · refine OpsOk.cons rfl (.v (VOk.asg (d := (.v (.int .i64 0))) rfl rfl) rfl) ?_
        exact .done (.mk ⟨.same _, .same _, .same _, .same _, trivial⟩ ⟨.same _, trivial⟩)
      refine Ok.block ?_
      refine Ok.le (σ' := ⟨[(1, (L 2 e_watchbilllaw27_Step a1)), (5, (.bref 21 0)), (6, (L 4 e_api_Row ([] : List T_api_Row))), (7, (.v (.int .i64 0)))], [(21, (.box .ex [(S t5.List_), (.v (.int .u32 t5.Next_)), (.v (.bool t5.Begun_)), (L 4 e_api_Row t5.Rows_)]))]⟩) (.mk ⟨.same _, .same _, .nil _, .same _, trivial⟩ ⟨.same _, trivial⟩) ?_
      refine Ok.loop (fun m19 σ => ∃ (y21_0_9 : Str) (y21_1_10 : Int) (y21_2_11 : Bool) (y21_3_12 : List T_api_Row) (x6_7 : List T_api_Row) (x7_8 : Int), σ = ⟨[(1, (L 2 e_watchbilllaw27_Step a1)), (5, (.bref 21 0)), (6, (L 4 e_api_Row x6_7)), (7, (.v (.int .i64 x7_8)))], [(21, (.box .ex [(S y21_0_9), (.v (.int .u32 y21_1_10)), (.v (.bool y21_2_11)), (L 4 e_api_Row y21_3_12)]))]⟩ ∧ watchbilllaw27_SubsLeast.l0 k a1 m19 y21_0_9 y21_1_10 y21_2_11 y21_3_12 x6_7 x7_8 = some r) k ⟨t5.List_, t5.Next_, t5.Begun_, t5.Rows_, ([] : List T_api_Row), 0, rfl, H⟩ ?_
      rintro m19 σ ⟨y21_0_9, y21_1_10, y21_2_11, y21_3_12, x6_7, x7_8, rfl, H⟩
      cases m19 with
      | zero => exact absurd H (by simp [watchbilllaw27_SubsLeast.l0])
      | succ m19 =>
        unfold watchbilllaw27_SubsLeast.l0 at H
        refine Ok.seq ?_
        refine Ok.seq ?_
        refine Ok.region (σ' := ⟨[(1, (L 2 e_watchbilllaw27_Step a1)), (5, (.bref 21 0)), (6, (L 4 e_api_Row x6_7)), (7, (.v (.int .i64 x7_8))), (25, (.v (.bool (decide (x7_8 < (a1.length : Int))))))], [(21, (.box .ex [(S y21_0_9), (.v (.int .u32 y21_1_10)), (.v (.bool y21_2_11)), (L 4 e_api_Row y21_3_12)]))]⟩) ?_ ?_
        · refine OpsOk.cons rfl (.v (VOk.mv (d := (.v (.int .i64 x7_8))) rfl rfl) rfl) ?_
          refine OpsOk.cons rfl (.v (VOk.mv (d := (L 2 e_watchbilllaw27_Step a1)) rfl rfl) rfl) ?_
          refine OpsOk.cons rfl (.v (VOk.lenL (e := e_watchbilllaw27_Step) (xs := a1) rfl Try.underlying23 rfl) rfl) ?_
          refine OpsOk.cons rfl (.v (VOk.arith (op := .lss) (k := .i64) (a := x7_8) (b := (a1.length : Int)) rfl rfl rfl rfl) rfl) ?_
          exact .done (.mk ⟨.same _, .same _, .same _, .same _, .same _, trivial⟩ ⟨.same _, trivial⟩)
        refine Ok.test (b := (decide (x7_8 < (a1.length : Int)))) rfl (fun hb92 => ?_) (fun hb92 => ?_)
        · replace H := ifT H hb92
          refine Ok.le (σ' := ⟨[(1, (L 2 e_watchbilllaw27_Step a1)), (5, (.bref 21 0)), (6, (L 4 e_api_Row x6_7)), (7, (.v (.int .i64 x7_8)))], [(21, (.box .ex [(S y21_0_9), (.v (.int .u32 y21_1_10)), (.v (.bool y21_2_11)), (L 4 e_api_Row y21_3_12)]))]⟩) (.mk ⟨.same _, .same _, .same _, .same _, trivial⟩ ⟨.same _, trivial⟩) ?_
          refine Ok.skip ?_
          refine Ok.seq ?_
          refine Ok.block ?_
          refine Ok.seq ?_
          obtain ⟨c20, H⟩ := assertE H
          refine Ok.region (σ' := ⟨[(1, (L 2 e_watchbilllaw27_Step a1)), (5, (.bref 21 0)), (6, (L 4 e_api_Row x6_7)), (7, (.v (.int .i64 x7_8))), (8, (L 4 e_api_Row ((rd a1 x7_8).Rows)))], [(21, (.box .ex [(S y21_0_9), (.v (.int .u32 y21_1_10)), (.v (.bool y21_2_11)), (L 4 e_api_Row y21_3_12)]))]⟩) ?_ ?_
          · refine OpsOk.cons rfl (.v (VOk.mv (d := (L 2 e_watchbilllaw27_Step a1)) rfl rfl) rfl) ?_
            refine OpsOk.cons rfl (.v (VOk.mv (d := (.v (.int .i64 x7_8))) rfl rfl) rfl) ?_
            refine OpsOk.cons rfl (.v (VOk.indexL (sz := 2) (e := e_watchbilllaw27_Step) (xs := a1) (i := x7_8) rfl Try.underlying23 sz32 rfl rfl c20) rfl) ?_
            refine OpsOk.cons rfl (.v (VOk.to (VOk.fieldFp rfl Try.underlying32 rfl sz28 rfl) rfl) rfl) ?_
            refine OpsOk.cons rfl (.v (VOk.loadFp (d := (L 4 e_api_Row ((rd a1 x7_8).Rows))) rfl Try.underlying28 rfl rfl rfl) rfl) ?_
            refine OpsOk.cons rfl (.v (VOk.asg (d := (L 4 e_api_Row ((rd a1 x7_8).Rows))) rfl rfl) rfl) ?_
            exact .done (.mk ⟨.same _, .same _, .same _, .same _, .same _, trivial⟩ ⟨.same _, trivial⟩)
          refine Ok.seq ?_
          refine Ok.seq ?_
          obtain ⟨t21, h22, H⟩ := bindE H
          refine Ok.region (σ' := ⟨[(1, (L 2 e_watchbilllaw27_Step a1)), (5, (.bref 21 0)), (6, (L 4 e_api_Row x6_7)), (7, (.v (.int .i64 x7_8))), (8, (L 4 e_api_Row ((rd a1 x7_8).Rows))), (34, (.v (.bool t21)))], [(21, (.box .ex [(S y21_0_9), (.v (.int .u32 y21_1_10)), (.v (.bool y21_2_11)), (L 4 e_api_Row y21_3_12)]))]⟩) ?_ ?_
          · refine OpsOk.cons rfl (.v (VOk.mv (d := (L 4 e_api_Row ((rd a1 x7_8).Rows))) rfl rfl) rfl) ?_
            refine OpsOk.cons rfl (.g (GOk.call rfl rfl cl21 rfl (watchbilllaw27_twice.ok h22) rfl) rfl) ?_
            exact .done (.mk ⟨.same _, .same _, .same _, .same _, .same _, .same _, trivial⟩ ⟨.same _, trivial⟩)
          refine Ok.test (b := t21) rfl (fun hb91 => ?_) (fun hb91 => ?_)
          · replace H := ifT H hb91
            refine Ok.seq ?_
            refine Ok.region (σ' := ⟨[(4, (.v (.bool true)))], []⟩) ?_ ?_
            · refine OpsOk.cons rfl (.v (VOk.asg (d := (.v (.bool true))) rfl rfl) rfl) ?_
              exact .done (.mk ⟨.same _, trivial⟩ trivial)
            refine Ok.le (σ' := ⟨[(4, (.v (.bool true)))], []⟩) (.mk ⟨.same _, trivial⟩ trivial) ?_
            refine Ok.ret ?_
            obtain rfl := Option.some.inj H
            exact ⟨.inl rfl, ⟨_, (.cons (.tmp rfl) .nil), rfl⟩, trivial⟩
          · replace H := ifF H hb91
            refine Ok.le (σ' := ⟨[(1, (L 2 e_watchbilllaw27_Step a1)), (5, (.bref 21 0)), (6, (L 4 e_api_Row x6_7)), (7, (.v (.int .i64 x7_8))), (8, (L 4 e_api_Row ((rd a1 x7_8).Rows)))], [(21, (.box .ex [(S y21_0_9), (.v (.int .u32 y21_1_10)), (.v (.bool y21_2_11)), (L 4 e_api_Row y21_3_12)]))]⟩) (.mk ⟨.same _, .same _, .same _, .same _, .same _, trivial⟩ ⟨.same _, trivial⟩) ?_
            refine Ok.skip ?_
            refine Ok.seq ?_
            obtain ⟨c23, H⟩ := assertE H
            obtain ⟨t24, h25, H⟩ := bindE H
            refine Ok.region (σ' := ⟨[(1, (L 2 e_watchbilllaw27_Step a1)), (5, (.bref 21 0)), (6, (L 4 e_api_Row x6_7)), (7, (.v (.int .i64 x7_8))), (8, (L 4 e_api_Row ((rd a1 x7_8).Rows))), (9, (.bref 9 0)), (10, (.v (.bool t24.2.1)))], [(9, (.box .ex [(S t24.1.List_), (.v (.int .u32 t24.1.Version)), (.v (.bool t24.1.Full)), (L 4 e_api_Row t24.1.Rows)])), (21, (.box .ex [(S t24.2.2.2.List_), (.v (.int .u32 t24.2.2.2.Next_)), (.v (.bool t24.2.2.2.Begun_)), (L 4 e_api_Row t24.2.2.2.Rows_)]))]⟩) ?_ ?_
            · refine OpsOk.cons rfl (.v (VOk.mv (d := (.bref 21 0)) rfl rfl) rfl) ?_
              refine OpsOk.cons rfl (.v (VOk.mv (d := (L 4 e_api_Row ((rd a1 x7_8).Rows))) rfl rfl) rfl) ?_
              refine OpsOk.cons rfl (.v (VOk.mv (d := (L 2 e_watchbilllaw27_Step a1)) rfl rfl) rfl) ?_
              refine OpsOk.cons rfl (.v (VOk.mv (d := (.v (.int .i64 x7_8))) rfl rfl) rfl) ?_
              refine OpsOk.cons rfl (.v (VOk.indexL (sz := 2) (e := e_watchbilllaw27_Step) (xs := a1) (i := x7_8) rfl Try.underlying23 sz32 rfl rfl c23) rfl) ?_
              refine OpsOk.cons rfl (.v (VOk.to (VOk.fieldFp rfl Try.underlying32 rfl sz4 rfl) rfl) rfl) ?_
              refine OpsOk.cons rfl (.v (VOk.loadFp (d := (.v (.bool ((rd a1 x7_8).Full)))) rfl Try.underlying4 rfl rfl rfl) rfl) ?_
              refine OpsOk.cons rfl (OpOk.callB (ds0 := [(.bref 21 0), (L 4 e_api_Row ((rd a1 x7_8).Rows)), (.v (.bool ((rd a1 x7_8).Full)))]) 21 rfl (.same _) cl11 (fun b => ((subs_Sub_Next.ok h25) b)) rfl ⟨.same _, .same _, .same _, trivial⟩ rfl rfl rfl rfl rfl) ?_
              refine OpsOk.cons rfl (.v (VOk.mv (d := (.tup [(.agg (e_api_Body t24.1)), (.v (.bool t24.2.1)), (.v (.int .i64 t24.2.2.1))])) rfl rfl) rfl) ?_
              refine OpsOk.cons rfl (.v (VOk.extract (d := (.agg (e_api_Body t24.1))) rfl rfl rfl) rfl) ?_
              refine OpsOk.cons rfl (.v (VOk.extract (d := (.v (.bool t24.2.1))) rfl rfl rfl) rfl) ?_
              refine OpsOk.cons rfl (.v (VOk.extract (d := (.v (.int .i64 t24.2.2.1))) rfl rfl rfl) rfl) ?_
              refine OpsOk.cons rfl (OpOk.alloc 9 [none, none, none, some 4] rfl zo34 rfl rfl) ?_
              refine OpsOk.cons rfl (OpOk.to (σ2 := St.put ⟨_, (9, (.box .ex [(S t24.1.List_), (.v (.int .u32 t24.1.Version)), (.v (.bool t24.1.Full)), (L 4 e_api_Row t24.1.Rows)])) :: _⟩ _ .junk) (.storeB rfl sz34 rfl rfl rfl rfl rfl rfl) rfl) ?_
              refine OpsOk.cons rfl (.v (VOk.asg (d := (.v (.bool t24.2.1))) rfl rfl) rfl) ?_
              refine OpsOk.cons rfl (.v (VOk.asg (d := (.v (.int .i64 t24.2.2.1))) rfl rfl) rfl) ?_
              exact .done (.mk ⟨.same _, .same _, .same _, .same _, .same _, .same _, .same _, trivial⟩ ⟨.same _, .same _, trivial⟩)
            refine Ok.seq ?_
            obtain ⟨t27, h28, H⟩ := bindE H
            refine Ok.region (σ' := ⟨[(1, (L 2 e_watchbilllaw27_Step a1)), (5, (.bref 21 0)), (6, (L 4 e_api_Row x6_7)), (7, (.v (.int .i64 x7_8))), (8, (L 4 e_api_Row ((rd a1 x7_8).Rows))), (9, (.bref 9 0)), (10, (.v (.bool t24.2.1))), (12, (.v (.bool ((decide (x7_8 > 0)) && t27))))], [(9, (.box .ex [(S t24.1.List_), (.v (.int .u32 t24.1.Version)), (.v (.bool t24.1.Full)), (L 4 e_api_Row t24.1.Rows)])), (21, (.box .ex [(S t24.2.2.2.List_), (.v (.int .u32 t24.2.2.2.Next_)), (.v (.bool t24.2.2.2.Begun_)), (L 4 e_api_Row t24.2.2.2.Rows_)]))]⟩) ?_ ?_
            · refine OpsOk.cons rfl (.v (VOk.mv (d := (.v (.int .i64 x7_8))) rfl rfl) rfl) ?_
              refine OpsOk.cons rfl (.v (VOk.arith (op := .gtr) (k := .i64) (a := x7_8) (b := 0) rfl rfl rfl rfl) rfl) ?_
              refine OpsOk.cons rfl (.v (VOk.mv (d := (.v (.bool (decide (x7_8 > 0))))) rfl rfl) rfl) ?_
              refine OpsOk.consI rfl rfl rfl (.one rfl) rfl (fun hw26 => (VOk.g (VOk.mv (d := (L 4 e_api_Row x6_7)) rfl rfl))) ?_
              refine OpsOk.consI rfl rfl rfl (.one rfl) rfl (fun hw26 => (VOk.g (VOk.mv (d := (L 4 e_api_Row ((rd a1 x7_8).Rows))) rfl rfl))) ?_
              refine OpsOk.consI rfl rfl rfl (.one rfl) rfl (fun hw26 => (GOk.fr (fr' := [(50, (L 4 e_api_Row x6_7)), (51, (L 4 e_api_Row ((rd a1 x7_8).Rows)))]) ⟨DLe.of_eq (cT hw26).symm, DLe.of_eq (cT hw26).symm, trivial⟩ (GOk.call rfl rfl cl19 rfl (watchbillref24_Rows.ok (ifT h28 hw26)) rfl))) ?_
              refine OpsOk.cons rfl (.v (VOk.to (VOk.pickI (b := (decide (x7_8 > 0))) (p := t27) (q := false) rfl rfl (fun hp29 => (cT (t_beq hp29))) (fun hp29 => rfl)) (pickAnd (decide (x7_8 > 0)) t27)) rfl) ?_
              refine OpsOk.cons rfl (.v (VOk.asg (d := (.v (.bool ((decide (x7_8 > 0)) && t27)))) rfl rfl) rfl) ?_
              exact .done (.mk ⟨.same _, .same _, .same _, .same _, .same _, .same _, .same _, .same _, trivial⟩ ⟨.same _, .same _, trivial⟩)
            refine Ok.seq ?_
            refine Ok.seq ?_
            obtain ⟨c31, H⟩ := assertE H
            refine Ok.region (σ' := ⟨[(1, (L 2 e_watchbilllaw27_Step a1)), (5, (.bref 21 0)), (6, (L 4 e_api_Row x6_7)), (7, (.v (.int .i64 x7_8))), (8, (L 4 e_api_Row ((rd a1 x7_8).Rows))), (9, (.bref 9 0)), (10, (.v (.bool t24.2.1))), (68, (.v (.bool (!(t24.2.1 == (((x7_8 == 0) || ((rd a1 x7_8).Full)) || (!((decide (x7_8 > 0)) && t27))))))))], [(9, (.box .ex [(S t24.1.List_), (.v (.int .u32 t24.1.Version)), (.v (.bool t24.1.Full)), (L 4 e_api_Row t24.1.Rows)])), (21, (.box .ex [(S t24.2.2.2.List_), (.v (.int .u32 t24.2.2.2.Next_)), (.v (.bool t24.2.2.2.Begun_)), (L 4 e_api_Row t24.2.2.2.Rows_)]))]⟩) ?_ ?_
            · refine OpsOk.cons rfl (.v (VOk.mv (d := (.v (.bool t24.2.1))) rfl rfl) rfl) ?_
              refine OpsOk.cons rfl (.v (VOk.mv (d := (.v (.int .i64 x7_8))) rfl rfl) rfl) ?_
              refine OpsOk.cons rfl (.v (VOk.arith (op := .eql) (k := .i64) (a := x7_8) (b := 0) rfl rfl rfl rfl) rfl) ?_
              refine OpsOk.cons rfl (.v (VOk.mv (d := (.v (.bool (x7_8 == 0)))) rfl rfl) rfl) ?_
              refine OpsOk.consI rfl rfl rfl (.one rfl) rfl (fun hw30 => (VOk.g (VOk.mv (d := (L 2 e_watchbilllaw27_Step a1)) rfl rfl))) ?_
              refine OpsOk.consI rfl rfl rfl (.one rfl) rfl (fun hw30 => (VOk.g (VOk.mv (d := (.v (.int .i64 x7_8))) rfl rfl))) ?_
              refine OpsOk.consI rfl rfl rfl (.one rfl) rfl (fun hw30 => (GOk.fr (fr' := [(58, (L 2 e_watchbilllaw27_Step a1)), (59, (.v (.int .i64 x7_8)))]) ⟨DLe.of_eq (cT hw30).symm, DLe.of_eq (cT hw30).symm, trivial⟩ (VOk.g (VOk.indexL (sz := 2) (e := e_watchbilllaw27_Step) (xs := a1) (i := x7_8) rfl Try.underlying23 sz32 rfl rfl (c31 hw30))))) ?_
              refine OpsOk.consI rfl rfl rfl (.one rfl) rfl (fun hw30 => (GOk.fr (fr' := [(60, (.fp (e_watchbilllaw27_Step (rd a1 x7_8)) 0))]) ⟨DLe.of_eq (cT hw30).symm, trivial⟩ (VOk.g (VOk.to (VOk.fieldFp rfl Try.underlying32 rfl sz4 rfl) rfl)))) ?_
              refine OpsOk.consI rfl rfl rfl (.one rfl) rfl (fun hw30 => (GOk.fr (fr' := [(61, (.fp (e_watchbilllaw27_Step (rd a1 x7_8)) 1))]) ⟨DLe.of_eq (cT hw30).symm, trivial⟩ (VOk.g (VOk.loadFp (d := (.v (.bool ((rd a1 x7_8).Full)))) rfl Try.underlying4 rfl rfl rfl)))) ?_
              refine OpsOk.cons rfl (.v (VOk.to (VOk.pickI (b := (x7_8 == 0)) (p := true) (q := (rd a1 x7_8).Full) rfl rfl (fun hp32 => rfl) (fun hp32 => (cT (f_beq hp32)))) (pickOr (x7_8 == 0) ((rd a1 x7_8).Full))) rfl) ?_
              refine OpsOk.cons rfl (.v (VOk.mv (d := (.v (.bool ((x7_8 == 0) || ((rd a1 x7_8).Full))))) rfl rfl) rfl) ?_
              refine OpsOk.consI rfl rfl rfl (.one rfl) rfl (fun hw33 => (VOk.g (VOk.mv (d := (.v (.bool ((decide (x7_8 > 0)) && t27)))) rfl rfl))) ?_
              refine OpsOk.consI rfl rfl rfl (.one rfl) rfl (fun hw33 => (GOk.fr (fr' := [(65, (.v (.bool ((decide (x7_8 > 0)) && t27))))]) ⟨DLe.of_eq (cT hw33).symm, trivial⟩ (VOk.g (VOk.not (b := ((decide (x7_8 > 0)) && t27)) rfl rfl)))) ?_
              refine OpsOk.cons rfl (.v (VOk.to (VOk.pickI (b := ((x7_8 == 0) || ((rd a1 x7_8).Full))) (p := true) (q := (!((decide (x7_8 > 0)) && t27))) rfl rfl (fun hp34 => rfl) (fun hp34 => (cT (f_beq hp34)))) (pickOr ((x7_8 == 0) || ((rd a1 x7_8).Full)) (!((decide (x7_8 > 0)) && t27)))) rfl) ?_
              refine OpsOk.cons rfl (.v (VOk.eqB (op := .neq) (p := t24.2.1) (q := (((x7_8 == 0) || ((rd a1 x7_8).Full)) || (!((decide (x7_8 > 0)) && t27)))) rfl (.inr rfl) Try.underlying4 rfl rfl) rfl) ?_
              exact .done (.mk ⟨.same _, .same _, .same _, .same _, .same _, .same _, .same _, .same _, trivial⟩ ⟨.same _, .same _, trivial⟩)
            refine Ok.test (b := (!(t24.2.1 == (((x7_8 == 0) || ((rd a1 x7_8).Full)) || (!((decide (x7_8 > 0)) && t27)))))) rfl (fun hb90 => ?_) (fun hb90 => ?_)
            · replace H := ifT H hb90
              refine Ok.seq ?_
              refine Ok.region (σ' := ⟨[(4, (.v (.bool false)))], []⟩) ?_ ?_
              · refine OpsOk.cons rfl (.v (VOk.asg (d := (.v (.bool false))) rfl rfl) rfl) ?_
                exact .done (.mk ⟨.same _, trivial⟩ trivial)
              refine Ok.le (σ' := ⟨[(4, (.v (.bool false)))], []⟩) (.mk ⟨.same _, trivial⟩ trivial) ?_
              refine Ok.ret ?_
              obtain rfl := Option.some.inj H
              exact ⟨.inl rfl, ⟨_, (.cons (.tmp rfl) .nil), rfl⟩, trivial⟩
            · replace H := ifF H hb90
              refine Ok.le (σ' := ⟨[(1, (L 2 e_watchbilllaw27_Step a1)), (5, (.bref 21 0)), (6, (L 4 e_api_Row x6_7)), (7, (.v (.int .i64 x7_8))), (8, (L 4 e_api_Row ((rd a1 x7_8).Rows))), (9, (.bref 9 0)), (10, (.v (.bool t24.2.1)))], [(9, (.box .ex [(S t24.1.List_), (.v (.int .u32 t24.1.Version)), (.v (.bool t24.1.Full)), (L 4 e_api_Row t24.1.Rows)])), (21, (.box .ex [(S t24.2.2.2.List_), (.v (.int .u32 t24.2.2.2.Next_)), (.v (.bool t24.2.2.2.Begun_)), (L 4 e_api_Row t24.2.2.2.Rows_)]))]⟩) (.mk ⟨.same _, .same _, .same _, .same _, .same _, .same _, .same _, trivial⟩ ⟨.same _, .same _, trivial⟩) ?_
              refine Ok.skip ?_
              refine Ok.meet (fun σ => ∃ (y9_0_35 : Str) (y9_1_36 : Int) (y9_2_37 : Bool) (y9_3_38 : List T_api_Row) (y21_0_39 : Str) (y21_1_40 : Int) (y21_2_41 : Bool) (y21_3_42 : List T_api_Row), σ = ⟨[(1, (L 2 e_watchbilllaw27_Step a1)), (5, (.bref 21 0)), (7, (.v (.int .i64 x7_8))), (8, (L 4 e_api_Row ((rd a1 x7_8).Rows))), (9, (.bref 9 0)), (10, (.v (.bool t24.2.1)))], [(9, (.box .ex [(S y9_0_35), (.v (.int .u32 y9_1_36)), (.v (.bool y9_2_37)), (L 4 e_api_Row y9_3_38)])), (21, (.box .ex [(S y21_0_39), (.v (.int .u32 y21_1_40)), (.v (.bool y21_2_41)), (L 4 e_api_Row y21_3_42)]))]⟩ ∧ watchbilllaw27_SubsLeast.j1 k (watchbilllaw27_SubsLeast.l0 k a1 m19) a1 x7_8 t24 y9_0_35 y9_1_36 y9_2_37 y9_3_38 y21_0_39 y21_1_40 y21_2_41 y21_3_42 = some r) ?_ ?_
              · refine Ok.seq ?_
                refine Ok.region (σ' := ⟨[(1, (L 2 e_watchbilllaw27_Step a1)), (5, (.bref 21 0)), (6, (L 4 e_api_Row x6_7)), (7, (.v (.int .i64 x7_8))), (8, (L 4 e_api_Row ((rd a1 x7_8).Rows))), (9, (.bref 9 0)), (10, (.v (.bool t24.2.1))), (74, (.v (.bool (t24.2.1 && (!t24.1.Full)))))], [(9, (.box .ex [(S t24.1.List_), (.v (.int .u32 t24.1.Version)), (.v (.bool t24.1.Full)), (L 4 e_api_Row t24.1.Rows)])), (21, (.box .ex [(S t24.2.2.2.List_), (.v (.int .u32 t24.2.2.2.Next_)), (.v (.bool t24.2.2.2.Begun_)), (L 4 e_api_Row t24.2.2.2.Rows_)]))]⟩) ?_ ?_
                · refine OpsOk.cons rfl (.v (VOk.mv (d := (.v (.bool t24.2.1))) rfl rfl) rfl) ?_
                  refine OpsOk.cons rfl (.v (VOk.mv (d := (.v (.bool t24.2.1))) rfl rfl) rfl) ?_
                  refine OpsOk.consI rfl rfl rfl (.one rfl) rfl (fun hw50 => (VOk.g (VOk.to (VOk.fieldB rfl Try.underlying34 rfl sz4 rfl rfl) rfl))) ?_
                  refine OpsOk.consI rfl rfl rfl (.one rfl) rfl (fun hw50 => (GOk.fr (fr' := [(71, (.bref 9 2))]) ⟨DLe.of_eq (cT hw50).symm, trivial⟩ (VOk.g (VOk.loadB (d := (.v (.bool t24.1.Full))) rfl Try.underlying4 rfl rfl rfl rfl)))) ?_
                  refine OpsOk.consI rfl rfl rfl (.one rfl) rfl (fun hw50 => (GOk.fr (fr' := [(72, (.v (.bool t24.1.Full)))]) ⟨DLe.of_eq (cT hw50).symm, trivial⟩ (VOk.g (VOk.not (b := t24.1.Full) rfl rfl)))) ?_
                  refine OpsOk.cons rfl (.v (VOk.to (VOk.pickI (b := t24.2.1) (p := (!t24.1.Full)) (q := false) rfl rfl (fun hp51 => (cT (t_beq hp51))) (fun hp51 => rfl)) (pickAnd t24.2.1 (!t24.1.Full))) rfl) ?_
                  exact .done (.mk ⟨.same _, .same _, .same _, .same _, .same _, .same _, .same _, .same _, trivial⟩ ⟨.same _, .same _, trivial⟩)
                refine Ok.test (b := (t24.2.1 && (!t24.1.Full))) rfl (fun hb89 => ?_) (fun hb89 => ?_)
                · replace H := ifT H hb89
                  refine Ok.seq ?_
                  refine Ok.region (σ' := ⟨[(1, (L 2 e_watchbilllaw27_Step a1)), (5, (.bref 21 0)), (6, (L 4 e_api_Row x6_7)), (7, (.v (.int .i64 x7_8))), (8, (L 4 e_api_Row ((rd a1 x7_8).Rows))), (9, (.bref 9 0)), (10, (.v (.bool t24.2.1))), (13, (.v (.int .i64 0)))], [(9, (.box .ex [(S t24.1.List_), (.v (.int .u32 t24.1.Version)), (.v (.bool t24.1.Full)), (L 4 e_api_Row t24.1.Rows)])), (21, (.box .ex [(S t24.2.2.2.List_), (.v (.int .u32 t24.2.2.2.Next_)), (.v (.bool t24.2.2.2.Begun_)), (L 4 e_api_Row t24.2.2.2.Rows_)]))]⟩) ?_ ?_
                  · refine OpsOk.cons rfl (.v (VOk.asg (d := (.v (.int .i64 0))) rfl rfl) rfl) ?_
                    exact .done (.mk ⟨.same _, .same _, .same _, .same _, .same _, .same _, .same _, .same _, trivial⟩ ⟨.same _, .same _, trivial⟩)
                  refine Ok.seq ?_
                  refine Ok.seq ?_
                  refine Ok.region (σ' := ⟨[(1, (L 2 e_watchbilllaw27_Step a1)), (5, (.bref 21 0)), (6, (L 4 e_api_Row x6_7)), (7, (.v (.int .i64 x7_8))), (8, (L 4 e_api_Row ((rd a1 x7_8).Rows))), (9, (.bref 9 0)), (10, (.v (.bool t24.2.1))), (13, (.v (.int .i64 0))), (14, (.v (.int .i64 0)))], [(9, (.box .ex [(S t24.1.List_), (.v (.int .u32 t24.1.Version)), (.v (.bool t24.1.Full)), (L 4 e_api_Row t24.1.Rows)])), (21, (.box .ex [(S t24.2.2.2.List_), (.v (.int .u32 t24.2.2.2.Next_)), (.v (.bool t24.2.2.2.Begun_)), (L 4 e_api_Row t24.2.2.2.Rows_)]))]⟩) ?_ ?_
                  · refine OpsOk.cons rfl (.v (VOk.asg (d := (.v (.int .i64 0))) rfl rfl) rfl) ?_
                    exact .done (.mk ⟨.same _, .same _, .same _, .same _, .same _, .same _, .same _, .same _, .same _, trivial⟩ ⟨.same _, .same _, trivial⟩)
                  refine Ok.block ?_
                  refine Ok.le (σ' := ⟨[(1, (L 2 e_watchbilllaw27_Step a1)), (5, (.bref 21 0)), (6, (L 4 e_api_Row x6_7)), (7, (.v (.int .i64 x7_8))), (8, (L 4 e_api_Row ((rd a1 x7_8).Rows))), (9, (.bref 9 0)), (10, (.v (.bool t24.2.1))), (13, (.v (.int .i64 0))), (14, (.v (.int .i64 0)))], [(9, (.box .ex [(S t24.1.List_), (.v (.int .u32 t24.1.Version)), (.v (.bool t24.1.Full)), (L 4 e_api_Row t24.1.Rows)])), (21, (.box .ex [(S t24.2.2.2.List_), (.v (.int .u32 t24.2.2.2.Next_)), (.v (.bool t24.2.2.2.Begun_)), (L 4 e_api_Row t24.2.2.2.Rows_)]))]⟩) (.mk ⟨.same _, .same _, .same _, .same _, .same _, .same _, .same _, .same _, .same _, trivial⟩ ⟨.same _, .same _, trivial⟩) ?_
                  refine Ok.loop (fun m72 σ => ∃ (y21_0_58 : Str) (y21_1_59 : Int) (y21_2_60 : Bool) (y21_3_61 : List T_api_Row) (y9_0_54 : Str) (y9_1_55 : Int) (y9_2_56 : Bool) (y9_3_57 : List T_api_Row) (x13_52 : Int) (x14_53 : Int), σ = ⟨[(1, (L 2 e_watchbilllaw27_Step a1)), (5, (.bref 21 0)), (6, (L 4 e_api_Row x6_7)), (7, (.v (.int .i64 x7_8))), (8, (L 4 e_api_Row ((rd a1 x7_8).Rows))), (9, (.bref 9 0)), (10, (.v (.bool t24.2.1))), (13, (.v (.int .i64 x13_52))), (14, (.v (.int .i64 x14_53)))], [(9, (.box .ex [(S y9_0_54), (.v (.int .u32 y9_1_55)), (.v (.bool y9_2_56)), (L 4 e_api_Row y9_3_57)])), (21, (.box .ex [(S y21_0_58), (.v (.int .u32 y21_1_59)), (.v (.bool y21_2_60)), (L 4 e_api_Row y21_3_61)]))]⟩ ∧ watchbilllaw27_SubsLeast.l2 k (watchbilllaw27_SubsLeast.l0 k a1 m19) a1 x6_7 x7_8 t24 m72 y21_0_58 y21_1_59 y21_2_60 y21_3_61 y9_0_54 y9_1_55 y9_2_56 y9_3_57 x13_52 x14_53 = some r) k ⟨t24.2.2.2.List_, t24.2.2.2.Next_, t24.2.2.2.Begun_, t24.2.2.2.Rows_, t24.1.List_, t24.1.Version, t24.1.Full, t24.1.Rows, 0, 0, rfl, H⟩ ?_
                  rintro m72 σ ⟨y21_0_58, y21_1_59, y21_2_60, y21_3_61, y9_0_54, y9_1_55, y9_2_56, y9_3_57, x13_52, x14_53, rfl, H⟩
                  cases m72 with
                  | zero => exact absurd H (by simp [watchbilllaw27_SubsLeast.l2])
                  | succ m72 =>
                    unfold watchbilllaw27_SubsLeast.l2 at H
                    refine Ok.seq ?_
                    refine Ok.seq ?_
                    refine Ok.region (σ' := ⟨[(1, (L 2 e_watchbilllaw27_Step a1)), (5, (.bref 21 0)), (6, (L 4 e_api_Row x6_7)), (7, (.v (.int .i64 x7_8))), (8, (L 4 e_api_Row ((rd a1 x7_8).Rows))), (9, (.bref 9 0)), (10, (.v (.bool t24.2.1))), (13, (.v (.int .i64 x13_52))), (14, (.v (.int .i64 x14_53))), (78, (.v (.bool (decide (x14_53 < (((rd a1 x7_8).Rows).length : Int))))))], [(9, (.box .ex [(S y9_0_54), (.v (.int .u32 y9_1_55)), (.v (.bool y9_2_56)), (L 4 e_api_Row y9_3_57)])), (21, (.box .ex [(S y21_0_58), (.v (.int .u32 y21_1_59)), (.v (.bool y21_2_60)), (L 4 e_api_Row y21_3_61)]))]⟩) ?_ ?_
                    · refine OpsOk.cons rfl (.v (VOk.mv (d := (.v (.int .i64 x14_53))) rfl rfl) rfl) ?_
                      refine OpsOk.cons rfl (.v (VOk.mv (d := (L 4 e_api_Row ((rd a1 x7_8).Rows))) rfl rfl) rfl) ?_
                      refine OpsOk.cons rfl (.v (VOk.lenL (e := e_api_Row) (xs := (rd a1 x7_8).Rows) rfl Try.underlying28 rfl) rfl) ?_
                      refine OpsOk.cons rfl (.v (VOk.arith (op := .lss) (k := .i64) (a := x14_53) (b := (((rd a1 x7_8).Rows).length : Int)) rfl rfl rfl rfl) rfl) ?_
                      exact .done (.mk ⟨.same _, .same _, .same _, .same _, .same _, .same _, .same _, .same _, .same _, .same _, trivial⟩ ⟨.same _, .same _, trivial⟩)
                    refine Ok.test (b := (decide (x14_53 < (((rd a1 x7_8).Rows).length : Int)))) rfl (fun hb88 => ?_) (fun hb88 => ?_)
                    · replace H := ifT H hb88
                      refine Ok.le (σ' := ⟨[(1, (L 2 e_watchbilllaw27_Step a1)), (5, (.bref 21 0)), (6, (L 4 e_api_Row x6_7)), (7, (.v (.int .i64 x7_8))), (8, (L 4 e_api_Row ((rd a1 x7_8).Rows))), (9, (.bref 9 0)), (10, (.v (.bool t24.2.1))), (13, (.v (.int .i64 x13_52))), (14, (.v (.int .i64 x14_53)))], [(9, (.box .ex [(S y9_0_54), (.v (.int .u32 y9_1_55)), (.v (.bool y9_2_56)), (L 4 e_api_Row y9_3_57)])), (21, (.box .ex [(S y21_0_58), (.v (.int .u32 y21_1_59)), (.v (.bool y21_2_60)), (L 4 e_api_Row y21_3_61)]))]⟩) (.mk ⟨.same _, .same _, .same _, .same _, .same _, .same _, .same _, .same _, .same _, trivial⟩ ⟨.same _, .same _, trivial⟩) ?_
                      refine Ok.skip ?_
                      refine Ok.seq ?_
                      refine Ok.block ?_
                      refine Ok.seq ?_
                      obtain ⟨c74, H⟩ := assertE H
                      obtain ⟨c75, H⟩ := assertE H
                      refine Ok.drawE (σ' := ⟨[(1, (L 2 e_watchbilllaw27_Step a1)), (5, (.bref 21 0)), (6, (L 4 e_api_Row x6_7)), (7, (.v (.int .i64 x7_8))), (8, (L 4 e_api_Row ((rd a1 x7_8).Rows))), (9, (.bref 9 0)), (10, (.v (.bool t24.2.1))), (13, (.v (.int .i64 x13_52))), (14, (.v (.int .i64 x14_53))), (95, (.v (.bool ((decide (x14_53 ≥ (x6_7.length : Int))) || (!((rd ((rd a1 x7_8).Rows) x14_53).URI == (rd x6_7 x14_53).URI && ((rd ((rd a1 x7_8).Rows) x14_53).Name == (rd x6_7 x14_53).Name && ((rd ((rd a1 x7_8).Rows) x14_53).State == (rd x6_7 x14_53).State && ((rd ((rd a1 x7_8).Rows) x14_53).Body == (rd x6_7 x14_53).Body && true)))))))))], [(9, (.box .ex [(S y9_0_54), (.v (.int .u32 y9_1_55)), (.v (.bool y9_2_56)), (L 4 e_api_Row y9_3_57)])), (21, (.box .ex [(S y21_0_58), (.v (.int .u32 y21_1_59)), (.v (.bool y21_2_60)), (L 4 e_api_Row y21_3_61)]))]⟩) [⟨true, [(14, (.v (.int .i64 x14_53)))], (.v (.int .i64 x14_53))⟩, ⟨true, [(6, (L 4 e_api_Row x6_7))], (L 4 e_api_Row x6_7)⟩, ⟨true, [(82, (L 4 e_api_Row x6_7))], (.v (.int .i64 (x6_7.length : Int)))⟩, ⟨true, [(81, (.v (.int .i64 x14_53))), (83, (.v (.int .i64 (x6_7.length : Int))))], (.v (.bool (decide (x14_53 ≥ (x6_7.length : Int)))))⟩, ⟨true, [(84, (.v (.bool (decide (x14_53 ≥ (x6_7.length : Int))))))], (.v (.bool (decide (x14_53 ≥ (x6_7.length : Int)))))⟩, It.I ((decide (x14_53 ≥ (x6_7.length : Int))) == false) [(8, (L 4 e_api_Row ((rd a1 x7_8).Rows))), (85, (.v (.bool (decide (x14_53 ≥ (x6_7.length : Int))))))] (L 4 e_api_Row ((rd a1 x7_8).Rows)), It.I ((decide (x14_53 ≥ (x6_7.length : Int))) == false) [(14, (.v (.int .i64 x14_53))), (85, (.v (.bool (decide (x14_53 ≥ (x6_7.length : Int))))))] (.v (.int .i64 x14_53)), It.I ((decide (x14_53 ≥ (x6_7.length : Int))) == false) [(86, (bif ((decide (x14_53 ≥ (x6_7.length : Int))) == false) then (L 4 e_api_Row ((rd a1 x7_8).Rows)) else .v undef)), (87, (bif ((decide (x14_53 ≥ (x6_7.length : Int))) == false) then (.v (.int .i64 x14_53)) else .v undef)), (85, (.v (.bool (decide (x14_53 ≥ (x6_7.length : Int))))))] (.fp (e_api_Row (rd ((rd a1 x7_8).Rows) x14_53)) 0), It.I ((decide (x14_53 ≥ (x6_7.length : Int))) == false) [(88, (bif ((decide (x14_53 ≥ (x6_7.length : Int))) == false) then (.fp (e_api_Row (rd ((rd a1 x7_8).Rows) x14_53)) 0) else .v undef)), (85, (.v (.bool (decide (x14_53 ≥ (x6_7.length : Int))))))] (.agg (e_api_Row (rd ((rd a1 x7_8).Rows) x14_53))), It.I ((decide (x14_53 ≥ (x6_7.length : Int))) == false) [(6, (L 4 e_api_Row x6_7)), (85, (.v (.bool (decide (x14_53 ≥ (x6_7.length : Int))))))] (L 4 e_api_Row x6_7), It.I ((decide (x14_53 ≥ (x6_7.length : Int))) == false) [(14, (.v (.int .i64 x14_53))), (85, (.v (.bool (decide (x14_53 ≥ (x6_7.length : Int))))))] (.v (.int .i64 x14_53)), It.I ((decide (x14_53 ≥ (x6_7.length : Int))) == false) [(90, (bif ((decide (x14_53 ≥ (x6_7.length : Int))) == false) then (L 4 e_api_Row x6_7) else .v undef)), (91, (bif ((decide (x14_53 ≥ (x6_7.length : Int))) == false) then (.v (.int .i64 x14_53)) else .v undef)), (85, (.v (.bool (decide (x14_53 ≥ (x6_7.length : Int))))))] (.fp (e_api_Row (rd x6_7 x14_53)) 0), It.I ((decide (x14_53 ≥ (x6_7.length : Int))) == false) [(92, (bif ((decide (x14_53 ≥ (x6_7.length : Int))) == false) then (.fp (e_api_Row (rd x6_7 x14_53)) 0) else .v undef)), (85, (.v (.bool (decide (x14_53 ≥ (x6_7.length : Int))))))] (.agg (e_api_Row (rd x6_7 x14_53))), It.I ((decide (x14_53 ≥ (x6_7.length : Int))) == false) [(89, (bif ((decide (x14_53 ≥ (x6_7.length : Int))) == false) then (.agg (e_api_Row (rd ((rd a1 x7_8).Rows) x14_53))) else .v undef)), (93, (bif ((decide (x14_53 ≥ (x6_7.length : Int))) == false) then (.agg (e_api_Row (rd x6_7 x14_53))) else .v undef)), (85, (.v (.bool (decide (x14_53 ≥ (x6_7.length : Int))))))] (.v (.bool (!((rd ((rd a1 x7_8).Rows) x14_53).URI == (rd x6_7 x14_53).URI && ((rd ((rd a1 x7_8).Rows) x14_53).Name == (rd x6_7 x14_53).Name && ((rd ((rd a1 x7_8).Rows) x14_53).State == (rd x6_7 x14_53).State && ((rd ((rd a1 x7_8).Rows) x14_53).Body == (rd x6_7 x14_53).Body && true))))))), ⟨true, [(85, (.v (.bool (decide (x14_53 ≥ (x6_7.length : Int)))))), (94, (bif ((decide (x14_53 ≥ (x6_7.length : Int))) == false) then (.v (.bool (!((rd ((rd a1 x7_8).Rows) x14_53).URI == (rd x6_7 x14_53).URI && ((rd ((rd a1 x7_8).Rows) x14_53).Name == (rd x6_7 x14_53).Name && ((rd ((rd a1 x7_8).Rows) x14_53).State == (rd x6_7 x14_53).State && ((rd ((rd a1 x7_8).Rows) x14_53).Body == (rd x6_7 x14_53).Body && true))))))) else .v undef))], (.v (.bool ((decide (x14_53 ≥ (x6_7.length : Int))) || (!((rd ((rd a1 x7_8).Rows) x14_53).URI == (rd x6_7 x14_53).URI && ((rd ((rd a1 x7_8).Rows) x14_53).Name == (rd x6_7 x14_53).Name && ((rd ((rd a1 x7_8).Rows) x14_53).State == (rd x6_7 x14_53).State && ((rd ((rd a1 x7_8).Rows) x14_53).Body == (rd x6_7 x14_53).Body && true))))))))⟩] [[], [], [1], [0, 2], [3], [4], [4], [4, 5, 6], [4, 7], [4], [4], [4, 9, 10], [4, 11], [4, 8, 12], [4, 13]] mixed (by kernel_rfl) ?_ ?_
                      · refine TxtE.cons rfl ⟨.same _, trivial⟩ rfl (VOk.g (VOk.mv (d := (.v (.int .i64 x14_53))) rfl rfl)) ?_
                        refine TxtE.cons rfl ⟨.same _, trivial⟩ rfl (VOk.g (VOk.mv (d := (L 4 e_api_Row x6_7)) rfl rfl)) ?_
                        refine TxtE.cons rfl ⟨.same _, trivial⟩ rfl (VOk.g (VOk.lenL (e := e_api_Row) (xs := x6_7) rfl Try.underlying28 rfl)) ?_
                        refine TxtE.cons rfl ⟨.same _, .same _, trivial⟩ rfl (VOk.g (VOk.arith (op := .geq) (k := .i64) (a := x14_53) (b := (x6_7.length : Int)) rfl rfl rfl rfl)) ?_
                        refine TxtE.cons rfl ⟨.same _, trivial⟩ rfl (VOk.g (VOk.mv (d := (.v (.bool (decide (x14_53 ≥ (x6_7.length : Int)))))) rfl rfl)) ?_
                        refine TxtE.consI rfl ⟨.same _, .same _, trivial⟩ rfl rfl (.one rfl) (fun hw73 => (VOk.g (VOk.mv (d := (L 4 e_api_Row ((rd a1 x7_8).Rows))) rfl rfl))) ?_
                        refine TxtE.consI rfl ⟨.same _, .same _, trivial⟩ rfl rfl (.one rfl) (fun hw73 => (VOk.g (VOk.mv (d := (.v (.int .i64 x14_53))) rfl rfl))) ?_
                        refine TxtE.consI rfl ⟨.same _, .same _, .same _, trivial⟩ rfl rfl (.one rfl) (fun hw73 => (GOk.fr (fr' := [(86, (L 4 e_api_Row ((rd a1 x7_8).Rows))), (87, (.v (.int .i64 x14_53)))]) ⟨DLe.of_eq (cT hw73).symm, DLe.of_eq (cT hw73).symm, trivial⟩ (VOk.g (VOk.indexL (sz := 4) (e := e_api_Row) (xs := (rd a1 x7_8).Rows) (i := x14_53) rfl Try.underlying28 sz43 rfl rfl (c74 hw73))))) ?_
                        refine TxtE.consI rfl ⟨.same _, .same _, trivial⟩ rfl rfl (.one rfl) (fun hw73 => (GOk.fr (fr' := [(88, (.fp (e_api_Row (rd ((rd a1 x7_8).Rows) x14_53)) 0))]) ⟨DLe.of_eq (cT hw73).symm, trivial⟩ (VOk.g (VOk.to (d' := (.agg (e_api_Row (rd ((rd a1 x7_8).Rows) x14_53)))) (.loadFpAgg rfl Try.underlying43 rfl sz43 rfl rfl) rfl)))) ?_
                        refine TxtE.consI rfl ⟨.same _, .same _, trivial⟩ rfl rfl (.one rfl) (fun hw73 => (VOk.g (VOk.mv (d := (L 4 e_api_Row x6_7)) rfl rfl))) ?_
                        refine TxtE.consI rfl ⟨.same _, .same _, trivial⟩ rfl rfl (.one rfl) (fun hw73 => (VOk.g (VOk.mv (d := (.v (.int .i64 x14_53))) rfl rfl))) ?_
                        refine TxtE.consI rfl ⟨.same _, .same _, .same _, trivial⟩ rfl rfl (.one rfl) (fun hw73 => (GOk.fr (fr' := [(90, (L 4 e_api_Row x6_7)), (91, (.v (.int .i64 x14_53)))]) ⟨DLe.of_eq (cT hw73).symm, DLe.of_eq (cT hw73).symm, trivial⟩ (VOk.g (VOk.indexL (sz := 4) (e := e_api_Row) (xs := x6_7) (i := x14_53) rfl Try.underlying28 sz43 rfl rfl (c75 hw73))))) ?_
                        refine TxtE.consI rfl ⟨.same _, .same _, trivial⟩ rfl rfl (.one rfl) (fun hw73 => (GOk.fr (fr' := [(92, (.fp (e_api_Row (rd x6_7 x14_53)) 0))]) ⟨DLe.of_eq (cT hw73).symm, trivial⟩ (VOk.g (VOk.to (d' := (.agg (e_api_Row (rd x6_7 x14_53)))) (.loadFpAgg rfl Try.underlying43 rfl sz43 rfl rfl) rfl)))) ?_
                        refine TxtE.consI rfl ⟨.same _, .same _, .same _, trivial⟩ rfl rfl (.one rfl) (fun hw73 => (GOk.fr (fr' := [(89, (.agg (e_api_Row (rd ((rd a1 x7_8).Rows) x14_53)))), (93, (.agg (e_api_Row (rd x6_7 x14_53))))]) ⟨DLe.of_eq (cT hw73).symm, DLe.of_eq (cT hw73).symm, trivial⟩ (VOk.g (VOk.eqS' (op := .neq) (d := (.v (.bool (!((rd ((rd a1 x7_8).Rows) x14_53).URI == (rd x6_7 x14_53).URI && ((rd ((rd a1 x7_8).Rows) x14_53).Name == (rd x6_7 x14_53).Name && ((rd ((rd a1 x7_8).Rows) x14_53).State == (rd x6_7 x14_53).State && ((rd ((rd a1 x7_8).Rows) x14_53).Body == (rd x6_7 x14_53).Body && true)))))))) rfl (.inr rfl) (eqt43 9998) ag43 eg43 rfl rfl rfl rfl)))) ?_
                        refine TxtE.cons rfl ⟨.same _, .same _, trivial⟩ rfl (VOk.g (VOk.to (VOk.pickI (b := (decide (x14_53 ≥ (x6_7.length : Int)))) (p := true) (q := (!((rd ((rd a1 x7_8).Rows) x14_53).URI == (rd x6_7 x14_53).URI && ((rd ((rd a1 x7_8).Rows) x14_53).Name == (rd x6_7 x14_53).Name && ((rd ((rd a1 x7_8).Rows) x14_53).State == (rd x6_7 x14_53).State && ((rd ((rd a1 x7_8).Rows) x14_53).Body == (rd x6_7 x14_53).Body && true)))))) rfl rfl (fun hp76 => rfl) (fun hp76 => (cT (f_beq hp76)))) (pickOr (decide (x14_53 ≥ (x6_7.length : Int))) (!((rd ((rd a1 x7_8).Rows) x14_53).URI == (rd x6_7 x14_53).URI && ((rd ((rd a1 x7_8).Rows) x14_53).Name == (rd x6_7 x14_53).Name && ((rd ((rd a1 x7_8).Rows) x14_53).State == (rd x6_7 x14_53).State && ((rd ((rd a1 x7_8).Rows) x14_53).Body == (rd x6_7 x14_53).Body && true)))))))) ?_
                        exact .done (.mk ⟨.same _, .same _, .same _, .same _, .same _, .same _, .same _, .same _, .same _, .same _, trivial⟩ ⟨.same _, .same _, trivial⟩)
                      refine Ok.test (b := ((decide (x14_53 ≥ (x6_7.length : Int))) || (!((rd ((rd a1 x7_8).Rows) x14_53).URI == (rd x6_7 x14_53).URI && ((rd ((rd a1 x7_8).Rows) x14_53).Name == (rd x6_7 x14_53).Name && ((rd ((rd a1 x7_8).Rows) x14_53).State == (rd x6_7 x14_53).State && ((rd ((rd a1 x7_8).Rows) x14_53).Body == (rd x6_7 x14_53).Body && true))))))) rfl (fun hb82 => ?_) (fun hb82 => ?_)
                      · replace H := ifT H hb82
                        refine Ok.seq ?_
                        refine Ok.seq ?_
                        obtain ⟨c78, H⟩ := assertE H
                        obtain ⟨c79, H⟩ := assertE H
                        refine Ok.drawE (σ' := ⟨[(1, (L 2 e_watchbilllaw27_Step a1)), (5, (.bref 21 0)), (6, (L 4 e_api_Row x6_7)), (7, (.v (.int .i64 x7_8))), (8, (L 4 e_api_Row ((rd a1 x7_8).Rows))), (9, (.bref 9 0)), (10, (.v (.bool t24.2.1))), (13, (.v (.int .i64 x13_52))), (14, (.v (.int .i64 x14_53))), (112, (.v (.bool ((decide (x13_52 ≥ (y9_3_57.length : Int))) || (!((rd y9_3_57 x13_52).URI == (rd ((rd a1 x7_8).Rows) x14_53).URI && ((rd y9_3_57 x13_52).Name == (rd ((rd a1 x7_8).Rows) x14_53).Name && ((rd y9_3_57 x13_52).State == (rd ((rd a1 x7_8).Rows) x14_53).State && ((rd y9_3_57 x13_52).Body == (rd ((rd a1 x7_8).Rows) x14_53).Body && true)))))))))], [(9, (.box .ex [(S y9_0_54), (.v (.int .u32 y9_1_55)), (.v (.bool y9_2_56)), (L 4 e_api_Row y9_3_57)])), (21, (.box .ex [(S y21_0_58), (.v (.int .u32 y21_1_59)), (.v (.bool y21_2_60)), (L 4 e_api_Row y21_3_61)]))]⟩) [⟨true, [(13, (.v (.int .i64 x13_52)))], (.v (.int .i64 x13_52))⟩, ⟨true, [(9, (.bref 9 0))], (.bref 9 3)⟩, ⟨true, [(97, (.bref 9 3))], (L 4 e_api_Row y9_3_57)⟩, ⟨true, [(98, (L 4 e_api_Row y9_3_57))], (.v (.int .i64 (y9_3_57.length : Int)))⟩, ⟨true, [(96, (.v (.int .i64 x13_52))), (99, (.v (.int .i64 (y9_3_57.length : Int))))], (.v (.bool (decide (x13_52 ≥ (y9_3_57.length : Int)))))⟩, ⟨true, [(100, (.v (.bool (decide (x13_52 ≥ (y9_3_57.length : Int))))))], (.v (.bool (decide (x13_52 ≥ (y9_3_57.length : Int)))))⟩, It.I ((decide (x13_52 ≥ (y9_3_57.length : Int))) == false) [(9, (.bref 9 0)), (101, (.v (.bool (decide (x13_52 ≥ (y9_3_57.length : Int))))))] (.bref 9 3), It.I ((decide (x13_52 ≥ (y9_3_57.length : Int))) == false) [(102, (bif ((decide (x13_52 ≥ (y9_3_57.length : Int))) == false) then (.bref 9 3) else .v undef)), (101, (.v (.bool (decide (x13_52 ≥ (y9_3_57.length : Int))))))] (L 4 e_api_Row y9_3_57), It.I ((decide (x13_52 ≥ (y9_3_57.length : Int))) == false) [(13, (.v (.int .i64 x13_52))), (101, (.v (.bool (decide (x13_52 ≥ (y9_3_57.length : Int))))))] (.v (.int .i64 x13_52)), It.I ((decide (x13_52 ≥ (y9_3_57.length : Int))) == false) [(103, (bif ((decide (x13_52 ≥ (y9_3_57.length : Int))) == false) then (L 4 e_api_Row y9_3_57) else .v undef)), (104, (bif ((decide (x13_52 ≥ (y9_3_57.length : Int))) == false) then (.v (.int .i64 x13_52)) else .v undef)), (101, (.v (.bool (decide (x13_52 ≥ (y9_3_57.length : Int))))))] (.fp (e_api_Row (rd y9_3_57 x13_52)) 0), It.I ((decide (x13_52 ≥ (y9_3_57.length : Int))) == false) [(105, (bif ((decide (x13_52 ≥ (y9_3_57.length : Int))) == false) then (.fp (e_api_Row (rd y9_3_57 x13_52)) 0) else .v undef)), (101, (.v (.bool (decide (x13_52 ≥ (y9_3_57.length : Int))))))] (.agg (e_api_Row (rd y9_3_57 x13_52))), It.I ((decide (x13_52 ≥ (y9_3_57.length : Int))) == false) [(8, (L 4 e_api_Row ((rd a1 x7_8).Rows))), (101, (.v (.bool (decide (x13_52 ≥ (y9_3_57.length : Int))))))] (L 4 e_api_Row ((rd a1 x7_8).Rows)), It.I ((decide (x13_52 ≥ (y9_3_57.length : Int))) == false) [(14, (.v (.int .i64 x14_53))), (101, (.v (.bool (decide (x13_52 ≥ (y9_3_57.length : Int))))))] (.v (.int .i64 x14_53)), It.I ((decide (x13_52 ≥ (y9_3_57.length : Int))) == false) [(107, (bif ((decide (x13_52 ≥ (y9_3_57.length : Int))) == false) then (L 4 e_api_Row ((rd a1 x7_8).Rows)) else .v undef)), (108, (bif ((decide (x13_52 ≥ (y9_3_57.length : Int))) == false) then (.v (.int .i64 x14_53)) else .v undef)), (101, (.v (.bool (decide (x13_52 ≥ (y9_3_57.length : Int))))))] (.fp (e_api_Row (rd ((rd a1 x7_8).Rows) x14_53)) 0), It.I ((decide (x13_52 ≥ (y9_3_57.length : Int))) == false) [(109, (bif ((decide (x13_52 ≥ (y9_3_57.length : Int))) == false) then (.fp (e_api_Row (rd ((rd a1 x7_8).Rows) x14_53)) 0) else .v undef)), (101, (.v (.bool (decide (x13_52 ≥ (y9_3_57.length : Int))))))] (.agg (e_api_Row (rd ((rd a1 x7_8).Rows) x14_53))), It.I ((decide (x13_52 ≥ (y9_3_57.length : Int))) == false) [(106, (bif ((decide (x13_52 ≥ (y9_3_57.length : Int))) == false) then (.agg (e_api_Row (rd y9_3_57 x13_52))) else .v undef)), (110, (bif ((decide (x13_52 ≥ (y9_3_57.length : Int))) == false) then (.agg (e_api_Row (rd ((rd a1 x7_8).Rows) x14_53))) else .v undef)), (101, (.v (.bool (decide (x13_52 ≥ (y9_3_57.length : Int))))))] (.v (.bool (!((rd y9_3_57 x13_52).URI == (rd ((rd a1 x7_8).Rows) x14_53).URI && ((rd y9_3_57 x13_52).Name == (rd ((rd a1 x7_8).Rows) x14_53).Name && ((rd y9_3_57 x13_52).State == (rd ((rd a1 x7_8).Rows) x14_53).State && ((rd y9_3_57 x13_52).Body == (rd ((rd a1 x7_8).Rows) x14_53).Body && true))))))), ⟨true, [(101, (.v (.bool (decide (x13_52 ≥ (y9_3_57.length : Int)))))), (111, (bif ((decide (x13_52 ≥ (y9_3_57.length : Int))) == false) then (.v (.bool (!((rd y9_3_57 x13_52).URI == (rd ((rd a1 x7_8).Rows) x14_53).URI && ((rd y9_3_57 x13_52).Name == (rd ((rd a1 x7_8).Rows) x14_53).Name && ((rd y9_3_57 x13_52).State == (rd ((rd a1 x7_8).Rows) x14_53).State && ((rd y9_3_57 x13_52).Body == (rd ((rd a1 x7_8).Rows) x14_53).Body && true))))))) else .v undef))], (.v (.bool ((decide (x13_52 ≥ (y9_3_57.length : Int))) || (!((rd y9_3_57 x13_52).URI == (rd ((rd a1 x7_8).Rows) x14_53).URI && ((rd y9_3_57 x13_52).Name == (rd ((rd a1 x7_8).Rows) x14_53).Name && ((rd y9_3_57 x13_52).State == (rd ((rd a1 x7_8).Rows) x14_53).State && ((rd y9_3_57 x13_52).Body == (rd ((rd a1 x7_8).Rows) x14_53).Body && true))))))))⟩] [[], [], [1], [2], [0, 3], [4], [5], [5, 6], [5], [5, 7, 8], [5, 9], [5], [5], [5, 11, 12], [5, 13], [5, 10, 14], [5, 15]] mixed (by kernel_rfl) ?_ ?_
                        · refine TxtE.cons rfl ⟨.same _, trivial⟩ rfl (VOk.g (VOk.mv (d := (.v (.int .i64 x13_52))) rfl rfl)) ?_
                          refine TxtE.cons rfl ⟨.same _, trivial⟩ rfl (VOk.g (VOk.to (VOk.fieldB rfl Try.underlying34 rfl sz28 rfl rfl) rfl)) ?_
                          refine TxtE.cons rfl ⟨.same _, trivial⟩ rfl (VOk.g (VOk.loadB (d := (L 4 e_api_Row y9_3_57)) rfl Try.underlying28 rfl rfl rfl rfl)) ?_
                          refine TxtE.cons rfl ⟨.same _, trivial⟩ rfl (VOk.g (VOk.lenL (e := e_api_Row) (xs := y9_3_57) rfl Try.underlying28 rfl)) ?_
                          refine TxtE.cons rfl ⟨.same _, .same _, trivial⟩ rfl (VOk.g (VOk.arith (op := .geq) (k := .i64) (a := x13_52) (b := (y9_3_57.length : Int)) rfl rfl rfl rfl)) ?_
                          refine TxtE.cons rfl ⟨.same _, trivial⟩ rfl (VOk.g (VOk.mv (d := (.v (.bool (decide (x13_52 ≥ (y9_3_57.length : Int)))))) rfl rfl)) ?_
                          refine TxtE.consI rfl ⟨.same _, .same _, trivial⟩ rfl rfl (.one rfl) (fun hw77 => (VOk.g (VOk.to (VOk.fieldB rfl Try.underlying34 rfl sz28 rfl rfl) rfl))) ?_
                          refine TxtE.consI rfl ⟨.same _, .same _, trivial⟩ rfl rfl (.one rfl) (fun hw77 => (GOk.fr (fr' := [(102, (.bref 9 3))]) ⟨DLe.of_eq (cT hw77).symm, trivial⟩ (VOk.g (VOk.loadB (d := (L 4 e_api_Row y9_3_57)) rfl Try.underlying28 rfl rfl rfl rfl)))) ?_
                          refine TxtE.consI rfl ⟨.same _, .same _, trivial⟩ rfl rfl (.one rfl) (fun hw77 => (VOk.g (VOk.mv (d := (.v (.int .i64 x13_52))) rfl rfl))) ?_
                          refine TxtE.consI rfl ⟨.same _, .same _, .same _, trivial⟩ rfl rfl (.one rfl) (fun hw77 => (GOk.fr (fr' := [(103, (L 4 e_api_Row y9_3_57)), (104, (.v (.int .i64 x13_52)))]) ⟨DLe.of_eq (cT hw77).symm, DLe.of_eq (cT hw77).symm, trivial⟩ (VOk.g (VOk.indexL (sz := 4) (e := e_api_Row) (xs := y9_3_57) (i := x13_52) rfl Try.underlying28 sz43 rfl rfl (c78 hw77))))) ?_
                          refine TxtE.consI rfl ⟨.same _, .same _, trivial⟩ rfl rfl (.one rfl) (fun hw77 => (GOk.fr (fr' := [(105, (.fp (e_api_Row (rd y9_3_57 x13_52)) 0))]) ⟨DLe.of_eq (cT hw77).symm, trivial⟩ (VOk.g (VOk.to (d' := (.agg (e_api_Row (rd y9_3_57 x13_52)))) (.loadFpAgg rfl Try.underlying43 rfl sz43 rfl rfl) rfl)))) ?_
                          refine TxtE.consI rfl ⟨.same _, .same _, trivial⟩ rfl rfl (.one rfl) (fun hw77 => (VOk.g (VOk.mv (d := (L 4 e_api_Row ((rd a1 x7_8).Rows))) rfl rfl))) ?_
                          refine TxtE.consI rfl ⟨.same _, .same _, trivial⟩ rfl rfl (.one rfl) (fun hw77 => (VOk.g (VOk.mv (d := (.v (.int .i64 x14_53))) rfl rfl))) ?_
                          refine TxtE.consI rfl ⟨.same _, .same _, .same _, trivial⟩ rfl rfl (.one rfl) (fun hw77 => (GOk.fr (fr' := [(107, (L 4 e_api_Row ((rd a1 x7_8).Rows))), (108, (.v (.int .i64 x14_53)))]) ⟨DLe.of_eq (cT hw77).symm, DLe.of_eq (cT hw77).symm, trivial⟩ (VOk.g (VOk.indexL (sz := 4) (e := e_api_Row) (xs := (rd a1 x7_8).Rows) (i := x14_53) rfl Try.underlying28 sz43 rfl rfl (c79 hw77))))) ?_
                          refine TxtE.consI rfl ⟨.same _, .same _, trivial⟩ rfl rfl (.one rfl) (fun hw77 => (GOk.fr (fr' := [(109, (.fp (e_api_Row (rd ((rd a1 x7_8).Rows) x14_53)) 0))]) ⟨DLe.of_eq (cT hw77).symm, trivial⟩ (VOk.g (VOk.to (d' := (.agg (e_api_Row (rd ((rd a1 x7_8).Rows) x14_53)))) (.loadFpAgg rfl Try.underlying43 rfl sz43 rfl rfl) rfl)))) ?_
                          refine TxtE.consI rfl ⟨.same _, .same _, .same _, trivial⟩ rfl rfl (.one rfl) (fun hw77 => (GOk.fr (fr' := [(106, (.agg (e_api_Row (rd y9_3_57 x13_52)))), (110, (.agg (e_api_Row (rd ((rd a1 x7_8).Rows) x14_53))))]) ⟨DLe.of_eq (cT hw77).symm, DLe.of_eq (cT hw77).symm, trivial⟩ (VOk.g (VOk.eqS' (op := .neq) (d := (.v (.bool (!((rd y9_3_57 x13_52).URI == (rd ((rd a1 x7_8).Rows) x14_53).URI && ((rd y9_3_57 x13_52).Name == (rd ((rd a1 x7_8).Rows) x14_53).Name && ((rd y9_3_57 x13_52).State == (rd ((rd a1 x7_8).Rows) x14_53).State && ((rd y9_3_57 x13_52).Body == (rd ((rd a1 x7_8).Rows) x14_53).Body && true)))))))) rfl (.inr rfl) (eqt43 9998) ag43 eg43 rfl rfl rfl rfl)))) ?_
                          refine TxtE.cons rfl ⟨.same _, .same _, trivial⟩ rfl (VOk.g (VOk.to (VOk.pickI (b := (decide (x13_52 ≥ (y9_3_57.length : Int)))) (p := true) (q := (!((rd y9_3_57 x13_52).URI == (rd ((rd a1 x7_8).Rows) x14_53).URI && ((rd y9_3_57 x13_52).Name == (rd ((rd a1 x7_8).Rows) x14_53).Name && ((rd y9_3_57 x13_52).State == (rd ((rd a1 x7_8).Rows) x14_53).State && ((rd y9_3_57 x13_52).Body == (rd ((rd a1 x7_8).Rows) x14_53).Body && true)))))) rfl rfl (fun hp80 => rfl) (fun hp80 => (cT (f_beq hp80)))) (pickOr (decide (x13_52 ≥ (y9_3_57.length : Int))) (!((rd y9_3_57 x13_52).URI == (rd ((rd a1 x7_8).Rows) x14_53).URI && ((rd y9_3_57 x13_52).Name == (rd ((rd a1 x7_8).Rows) x14_53).Name && ((rd y9_3_57 x13_52).State == (rd ((rd a1 x7_8).Rows) x14_53).State && ((rd y9_3_57 x13_52).Body == (rd ((rd a1 x7_8).Rows) x14_53).Body && true)))))))) ?_
                          exact .done (.mk ⟨.same _, .same _, .same _, .same _, .same _, .same _, .same _, .same _, .same _, .same _, trivial⟩ ⟨.same _, .same _, trivial⟩)
                        refine Ok.test (b := ((decide (x13_52 ≥ (y9_3_57.length : Int))) || (!((rd y9_3_57 x13_52).URI == (rd ((rd a1 x7_8).Rows) x14_53).URI && ((rd y9_3_57 x13_52).Name == (rd ((rd a1 x7_8).Rows) x14_53).Name && ((rd y9_3_57 x13_52).State == (rd ((rd a1 x7_8).Rows) x14_53).State && ((rd y9_3_57 x13_52).Body == (rd ((rd a1 x7_8).Rows) x14_53).Body && true))))))) rfl (fun hb81 => ?_) (fun hb81 => ?_)
                        · replace H := ifT H hb81
                          refine Ok.seq ?_
                          refine Ok.region (σ' := ⟨[(4, (.v (.bool false)))], []⟩) ?_ ?_
                          · refine OpsOk.cons rfl (.v (VOk.asg (d := (.v (.bool false))) rfl rfl) rfl) ?_
                            exact .done (.mk ⟨.same _, trivial⟩ trivial)
                          refine Ok.le (σ' := ⟨[(4, (.v (.bool false)))], []⟩) (.mk ⟨.same _, trivial⟩ trivial) ?_
                          refine Ok.ret ?_
                          obtain rfl := Option.some.inj H
                          exact ⟨.inl rfl, ⟨_, (.cons (.tmp rfl) .nil), rfl⟩, trivial⟩
                        · replace H := ifF H hb81
                          refine Ok.le (σ' := ⟨[(1, (L 2 e_watchbilllaw27_Step a1)), (5, (.bref 21 0)), (6, (L 4 e_api_Row x6_7)), (7, (.v (.int .i64 x7_8))), (8, (L 4 e_api_Row ((rd a1 x7_8).Rows))), (9, (.bref 9 0)), (10, (.v (.bool t24.2.1))), (13, (.v (.int .i64 x13_52))), (14, (.v (.int .i64 x14_53)))], [(9, (.box .ex [(S y9_0_54), (.v (.int .u32 y9_1_55)), (.v (.bool y9_2_56)), (L 4 e_api_Row y9_3_57)])), (21, (.box .ex [(S y21_0_58), (.v (.int .u32 y21_1_59)), (.v (.bool y21_2_60)), (L 4 e_api_Row y21_3_61)]))]⟩) (.mk ⟨.same _, .same _, .same _, .same _, .same _, .same _, .same _, .same _, .same _, trivial⟩ ⟨.same _, .same _, trivial⟩) ?_
                          refine Ok.skip ?_
                          refine Ok.region (σ' := ⟨[(1, (L 2 e_watchbilllaw27_Step a1)), (5, (.bref 21 0)), (6, (L 4 e_api_Row x6_7)), (7, (.v (.int .i64 x7_8))), (8, (L 4 e_api_Row ((rd a1 x7_8).Rows))), (9, (.bref 9 0)), (10, (.v (.bool t24.2.1))), (13, (.v (.int .i64 (IntKind.i64.wrap (x13_52 + 1))))), (14, (.v (.int .i64 x14_53)))], [(9, (.box .ex [(S y9_0_54), (.v (.int .u32 y9_1_55)), (.v (.bool y9_2_56)), (L 4 e_api_Row y9_3_57)])), (21, (.box .ex [(S y21_0_58), (.v (.int .u32 y21_1_59)), (.v (.bool y21_2_60)), (L 4 e_api_Row y21_3_61)]))]⟩) ?_ ?_
                          · refine OpsOk.cons rfl (.v (VOk.mv (d := (.v (.int .i64 x13_52))) rfl rfl) rfl) ?_
                            refine OpsOk.cons rfl (.v (VOk.arith (op := .add) (k := .i64) (a := x13_52) (b := 1) rfl rfl rfl rfl) rfl) ?_
                            refine OpsOk.cons rfl (.v (VOk.asg (d := (.v (.int .i64 (IntKind.i64.wrap (x13_52 + 1))))) rfl rfl) rfl) ?_
                            exact .done (.mk ⟨.same _, .same _, .same _, .same _, .same _, .same _, .same _, .same _, .same _, trivial⟩ ⟨.same _, .same _, trivial⟩)
                          refine Ok.region (σ' := ⟨[(1, (L 2 e_watchbilllaw27_Step a1)), (5, (.bref 21 0)), (6, (L 4 e_api_Row x6_7)), (7, (.v (.int .i64 x7_8))), (8, (L 4 e_api_Row ((rd a1 x7_8).Rows))), (9, (.bref 9 0)), (10, (.v (.bool t24.2.1))), (13, (.v (.int .i64 (IntKind.i64.wrap (x13_52 + 1))))), (14, (.v (.int .i64 (IntKind.i64.wrap (x14_53 + 1)))))], [(9, (.box .ex [(S y9_0_54), (.v (.int .u32 y9_1_55)), (.v (.bool y9_2_56)), (L 4 e_api_Row y9_3_57)])), (21, (.box .ex [(S y21_0_58), (.v (.int .u32 y21_1_59)), (.v (.bool y21_2_60)), (L 4 e_api_Row y21_3_61)]))]⟩) ?_ ?_
                          · refine OpsOk.cons rfl (.v (VOk.mv (d := (.v (.int .i64 x14_53))) rfl rfl) rfl) ?_
                            refine OpsOk.cons rfl (.v (VOk.arith (op := .add) (k := .i64) (a := x14_53) (b := 1) rfl rfl rfl rfl) rfl) ?_
                            refine OpsOk.cons rfl (.v (VOk.asg (d := (.v (.int .i64 (IntKind.i64.wrap (x14_53 + 1))))) rfl rfl) rfl) ?_
                            exact .done (.mk ⟨.same _, .same _, .same _, .same _, .same _, .same _, .same _, .same _, .same _, trivial⟩ ⟨.same _, .same _, trivial⟩)
                          exact ⟨m72, Nat.lt_succ_self m72, y21_0_58, y21_1_59, y21_2_60, y21_3_61, y9_0_54, y9_1_55, y9_2_56, y9_3_57, (IntKind.i64.wrap (x13_52 + 1)), (IntKind.i64.wrap (x14_53 + 1)), rfl, H⟩
                      · replace H := ifF H hb82
                        refine Ok.le (σ' := ⟨[(1, (L 2 e_watchbilllaw27_Step a1)), (5, (.bref 21 0)), (6, (L 4 e_api_Row x6_7)), (7, (.v (.int .i64 x7_8))), (8, (L 4 e_api_Row ((rd a1 x7_8).Rows))), (9, (.bref 9 0)), (10, (.v (.bool t24.2.1))), (13, (.v (.int .i64 x13_52))), (14, (.v (.int .i64 x14_53)))], [(9, (.box .ex [(S y9_0_54), (.v (.int .u32 y9_1_55)), (.v (.bool y9_2_56)), (L 4 e_api_Row y9_3_57)])), (21, (.box .ex [(S y21_0_58), (.v (.int .u32 y21_1_59)), (.v (.bool y21_2_60)), (L 4 e_api_Row y21_3_61)]))]⟩) (.mk ⟨.same _, .same _, .same _, .same _, .same _, .same _, .same _, .same _, .same _, trivial⟩ ⟨.same _, .same _, trivial⟩) ?_
                        refine Ok.skip ?_
                        refine Ok.region (σ' := ⟨[(1, (L 2 e_watchbilllaw27_Step a1)), (5, (.bref 21 0)), (6, (L 4 e_api_Row x6_7)), (7, (.v (.int .i64 x7_8))), (8, (L 4 e_api_Row ((rd a1 x7_8).Rows))), (9, (.bref 9 0)), (10, (.v (.bool t24.2.1))), (13, (.v (.int .i64 x13_52))), (14, (.v (.int .i64 (IntKind.i64.wrap (x14_53 + 1)))))], [(9, (.box .ex [(S y9_0_54), (.v (.int .u32 y9_1_55)), (.v (.bool y9_2_56)), (L 4 e_api_Row y9_3_57)])), (21, (.box .ex [(S y21_0_58), (.v (.int .u32 y21_1_59)), (.v (.bool y21_2_60)), (L 4 e_api_Row y21_3_61)]))]⟩) ?_ ?_
                        · refine OpsOk.cons rfl (.v (VOk.mv (d := (.v (.int .i64 x14_53))) rfl rfl) rfl) ?_
                          refine OpsOk.cons rfl (.v (VOk.arith (op := .add) (k := .i64) (a := x14_53) (b := 1) rfl rfl rfl rfl) rfl) ?_
                          refine OpsOk.cons rfl (.v (VOk.asg (d := (.v (.int .i64 (IntKind.i64.wrap (x14_53 + 1))))) rfl rfl) rfl) ?_
                          exact .done (.mk ⟨.same _, .same _, .same _, .same _, .same _, .same _, .same _, .same _, .same _, trivial⟩ ⟨.same _, .same _, trivial⟩)
                        exact ⟨m72, Nat.lt_succ_self m72, y21_0_58, y21_1_59, y21_2_60, y21_3_61, y9_0_54, y9_1_55, y9_2_56, y9_3_57, x13_52, (IntKind.i64.wrap (x14_53 + 1)), rfl, H⟩
                    · replace H := ifF H hb88
                      refine Ok.le (σ' := ⟨[(1, (L 2 e_watchbilllaw27_Step a1)), (5, (.bref 21 0)), (6, (L 4 e_api_Row x6_7)), (7, (.v (.int .i64 x7_8))), (8, (L 4 e_api_Row ((rd a1 x7_8).Rows))), (9, (.bref 9 0)), (10, (.v (.bool t24.2.1))), (13, (.v (.int .i64 x13_52)))], [(9, (.box .ex [(S y9_0_54), (.v (.int .u32 y9_1_55)), (.v (.bool y9_2_56)), (L 4 e_api_Row y9_3_57)])), (21, (.box .ex [(S y21_0_58), (.v (.int .u32 y21_1_59)), (.v (.bool y21_2_60)), (L 4 e_api_Row y21_3_61)]))]⟩) (.mk ⟨.same _, .same _, .same _, .same _, .same _, .same _, .same _, .same _, trivial⟩ ⟨.same _, .same _, trivial⟩) ?_
                      refine Ok.exit ?_
                      refine Ok.seq ?_
                      refine Ok.region (σ' := ⟨[(1, (L 2 e_watchbilllaw27_Step a1)), (5, (.bref 21 0)), (7, (.v (.int .i64 x7_8))), (8, (L 4 e_api_Row ((rd a1 x7_8).Rows))), (9, (.bref 9 0)), (10, (.v (.bool t24.2.1))), (130, (.v (.bool (((x13_52 != (y9_3_57.length : Int)) || (x13_52 == 0)) || (decide ((x6_7.length : Int) > (((rd a1 x7_8).Rows).length : Int)))))))], [(9, (.box .ex [(S y9_0_54), (.v (.int .u32 y9_1_55)), (.v (.bool y9_2_56)), (L 4 e_api_Row y9_3_57)])), (21, (.box .ex [(S y21_0_58), (.v (.int .u32 y21_1_59)), (.v (.bool y21_2_60)), (L 4 e_api_Row y21_3_61)]))]⟩) ?_ ?_
                      · refine OpsOk.cons rfl (.v (VOk.mv (d := (.v (.int .i64 x13_52))) rfl rfl) rfl) ?_
                        refine OpsOk.cons rfl (.v (VOk.to (VOk.fieldB rfl Try.underlying34 rfl sz28 rfl rfl) rfl) rfl) ?_
                        refine OpsOk.cons rfl (.v (VOk.loadB (d := (L 4 e_api_Row y9_3_57)) rfl Try.underlying28 rfl rfl rfl rfl) rfl) ?_
                        refine OpsOk.cons rfl (.v (VOk.lenL (e := e_api_Row) (xs := y9_3_57) rfl Try.underlying28 rfl) rfl) ?_
                        refine OpsOk.cons rfl (.v (VOk.arith (op := .neq) (k := .i64) (a := x13_52) (b := (y9_3_57.length : Int)) rfl rfl rfl rfl) rfl) ?_
                        refine OpsOk.cons rfl (.v (VOk.mv (d := (.v (.bool (x13_52 != (y9_3_57.length : Int))))) rfl rfl) rfl) ?_
                        refine OpsOk.consI rfl rfl rfl (.one rfl) rfl (fun hw83 => (VOk.g (VOk.mv (d := (.v (.int .i64 x13_52))) rfl rfl))) ?_
                        refine OpsOk.consI rfl rfl rfl (.one rfl) rfl (fun hw83 => (GOk.fr (fr' := [(121, (.v (.int .i64 x13_52)))]) ⟨DLe.of_eq (cT hw83).symm, trivial⟩ (VOk.g (VOk.arith (op := .eql) (k := .i64) (a := x13_52) (b := 0) rfl rfl rfl rfl)))) ?_
                        refine OpsOk.cons rfl (.v (VOk.to (VOk.pickI (b := (x13_52 != (y9_3_57.length : Int))) (p := true) (q := (x13_52 == 0)) rfl rfl (fun hp84 => rfl) (fun hp84 => (cT (f_beq hp84)))) (pickOr (x13_52 != (y9_3_57.length : Int)) (x13_52 == 0))) rfl) ?_
                        refine OpsOk.cons rfl (.v (VOk.mv (d := (.v (.bool ((x13_52 != (y9_3_57.length : Int)) || (x13_52 == 0))))) rfl rfl) rfl) ?_
                        refine OpsOk.consI rfl rfl rfl (.one rfl) rfl (fun hw85 => (VOk.g (VOk.mv (d := (L 4 e_api_Row x6_7)) rfl rfl))) ?_
                        refine OpsOk.consI rfl rfl rfl (.one rfl) rfl (fun hw85 => (GOk.fr (fr' := [(125, (L 4 e_api_Row x6_7))]) ⟨DLe.of_eq (cT hw85).symm, trivial⟩ (VOk.g (VOk.lenL (e := e_api_Row) (xs := x6_7) rfl Try.underlying28 rfl)))) ?_
                        refine OpsOk.consI rfl rfl rfl (.one rfl) rfl (fun hw85 => (VOk.g (VOk.mv (d := (L 4 e_api_Row ((rd a1 x7_8).Rows))) rfl rfl))) ?_
                        refine OpsOk.consI rfl rfl rfl (.one rfl) rfl (fun hw85 => (GOk.fr (fr' := [(127, (L 4 e_api_Row ((rd a1 x7_8).Rows)))]) ⟨DLe.of_eq (cT hw85).symm, trivial⟩ (VOk.g (VOk.lenL (e := e_api_Row) (xs := (rd a1 x7_8).Rows) rfl Try.underlying28 rfl)))) ?_
                        refine OpsOk.consI rfl rfl rfl (.one rfl) rfl (fun hw85 => (GOk.fr (fr' := [(126, (.v (.int .i64 (x6_7.length : Int)))), (128, (.v (.int .i64 (((rd a1 x7_8).Rows).length : Int))))]) ⟨DLe.of_eq (cT hw85).symm, DLe.of_eq (cT hw85).symm, trivial⟩ (VOk.g (VOk.arith (op := .gtr) (k := .i64) (a := (x6_7.length : Int)) (b := (((rd a1 x7_8).Rows).length : Int)) rfl rfl rfl rfl)))) ?_
                        refine OpsOk.cons rfl (.v (VOk.to (VOk.pickI (b := ((x13_52 != (y9_3_57.length : Int)) || (x13_52 == 0))) (p := true) (q := (decide ((x6_7.length : Int) > (((rd a1 x7_8).Rows).length : Int)))) rfl rfl (fun hp86 => rfl) (fun hp86 => (cT (f_beq hp86)))) (pickOr ((x13_52 != (y9_3_57.length : Int)) || (x13_52 == 0)) (decide ((x6_7.length : Int) > (((rd a1 x7_8).Rows).length : Int))))) rfl) ?_
                        exact .done (.mk ⟨.same _, .same _, .same _, .same _, .same _, .same _, .same _, trivial⟩ ⟨.same _, .same _, trivial⟩)
                      refine Ok.test (b := (((x13_52 != (y9_3_57.length : Int)) || (x13_52 == 0)) || (decide ((x6_7.length : Int) > (((rd a1 x7_8).Rows).length : Int))))) rfl (fun hb87 => ?_) (fun hb87 => ?_)
                      · replace H := ifT H hb87
                        refine Ok.seq ?_
                        refine Ok.region (σ' := ⟨[(4, (.v (.bool false)))], []⟩) ?_ ?_
                        · refine OpsOk.cons rfl (.v (VOk.asg (d := (.v (.bool false))) rfl rfl) rfl) ?_
                          exact .done (.mk ⟨.same _, trivial⟩ trivial)
                        refine Ok.le (σ' := ⟨[(4, (.v (.bool false)))], []⟩) (.mk ⟨.same _, trivial⟩ trivial) ?_
                        refine Ok.ret ?_
                        obtain rfl := Option.some.inj H
                        exact ⟨.inl rfl, ⟨_, (.cons (.tmp rfl) .nil), rfl⟩, trivial⟩
                      · replace H := ifF H hb87
                        refine Ok.le (σ' := ⟨[(1, (L 2 e_watchbilllaw27_Step a1)), (5, (.bref 21 0)), (7, (.v (.int .i64 x7_8))), (8, (L 4 e_api_Row ((rd a1 x7_8).Rows))), (9, (.bref 9 0)), (10, (.v (.bool t24.2.1)))], [(9, (.box .ex [(S y9_0_54), (.v (.int .u32 y9_1_55)), (.v (.bool y9_2_56)), (L 4 e_api_Row y9_3_57)])), (21, (.box .ex [(S y21_0_58), (.v (.int .u32 y21_1_59)), (.v (.bool y21_2_60)), (L 4 e_api_Row y21_3_61)]))]⟩) (.mk ⟨.same _, .same _, .same _, .same _, .same _, .same _, trivial⟩ ⟨.same _, .same _, trivial⟩) ?_
                        refine Ok.skip ?_
                        exact ⟨y9_0_54, y9_1_55, y9_2_56, y9_3_57, y21_0_58, y21_1_59, y21_2_60, y21_3_61, rfl, H⟩
                · replace H := ifF H hb89
                  refine Ok.le (σ' := ⟨[(1, (L 2 e_watchbilllaw27_Step a1)), (5, (.bref 21 0)), (7, (.v (.int .i64 x7_8))), (8, (L 4 e_api_Row ((rd a1 x7_8).Rows))), (9, (.bref 9 0)), (10, (.v (.bool t24.2.1)))], [(9, (.box .ex [(S t24.1.List_), (.v (.int .u32 t24.1.Version)), (.v (.bool t24.1.Full)), (L 4 e_api_Row t24.1.Rows)])), (21, (.box .ex [(S t24.2.2.2.List_), (.v (.int .u32 t24.2.2.2.Next_)), (.v (.bool t24.2.2.2.Begun_)), (L 4 e_api_Row t24.2.2.2.Rows_)]))]⟩) (.mk ⟨.same _, .same _, .same _, .same _, .same _, .same _, trivial⟩ ⟨.same _, .same _, trivial⟩) ?_
                  refine Ok.skip ?_
                  exact ⟨t24.1.List_, t24.1.Version, t24.1.Full, t24.1.Rows, t24.2.2.2.List_, t24.2.2.2.Next_, t24.2.2.2.Begun_, t24.2.2.2.Rows_, rfl, H⟩
              · rintro σ ⟨y9_0_35, y9_1_36, y9_2_37, y9_3_38, y21_0_39, y21_1_40, y21_2_41, y21_3_42, rfl, H⟩
                unfold watchbilllaw27_SubsLeast.j1 at H
                refine Ok.seq ?_
                refine Ok.seq ?_
                obtain ⟨t46, h47, H⟩ := bindE H
                refine Ok.region (σ' := ⟨[(1, (L 2 e_watchbilllaw27_Step a1)), (5, (.bref 21 0)), (7, (.v (.int .i64 x7_8))), (8, (L 4 e_api_Row ((rd a1 x7_8).Rows))), (142, (.v (.bool ((t24.2.1 && y9_2_37) && (!t46)))))], [(21, (.box .ex [(S y21_0_39), (.v (.int .u32 y21_1_40)), (.v (.bool y21_2_41)), (L 4 e_api_Row y21_3_42)]))]⟩) ?_ ?_
                · refine OpsOk.cons rfl (.v (VOk.mv (d := (.v (.bool t24.2.1))) rfl rfl) rfl) ?_
                  refine OpsOk.cons rfl (.v (VOk.mv (d := (.v (.bool t24.2.1))) rfl rfl) rfl) ?_
                  refine OpsOk.consI rfl rfl rfl (.one rfl) rfl (fun hw43 => (VOk.g (VOk.to (VOk.fieldB rfl Try.underlying34 rfl sz4 rfl rfl) rfl))) ?_
                  refine OpsOk.consI rfl rfl rfl (.one rfl) rfl (fun hw43 => (GOk.fr (fr' := [(133, (.bref 9 2))]) ⟨DLe.of_eq (cT hw43).symm, trivial⟩ (VOk.g (VOk.loadB (d := (.v (.bool y9_2_37))) rfl Try.underlying4 rfl rfl rfl rfl)))) ?_
                  refine OpsOk.cons rfl (.v (VOk.to (VOk.pickI (b := t24.2.1) (p := y9_2_37) (q := false) rfl rfl (fun hp44 => (cT (t_beq hp44))) (fun hp44 => rfl)) (pickAnd t24.2.1 y9_2_37)) rfl) ?_
                  refine OpsOk.cons rfl (.v (VOk.mv (d := (.v (.bool (t24.2.1 && y9_2_37)))) rfl rfl) rfl) ?_
                  refine OpsOk.consI rfl rfl rfl (.one rfl) rfl (fun hw45 => (VOk.g (VOk.to (VOk.fieldB rfl Try.underlying34 rfl sz28 rfl rfl) rfl))) ?_
                  refine OpsOk.consI rfl rfl rfl (.one rfl) rfl (fun hw45 => (GOk.fr (fr' := [(137, (.bref 9 3))]) ⟨DLe.of_eq (cT hw45).symm, trivial⟩ (VOk.g (VOk.loadB (d := (L 4 e_api_Row y9_3_38)) rfl Try.underlying28 rfl rfl rfl rfl)))) ?_
                  refine OpsOk.consI rfl rfl rfl (.one rfl) rfl (fun hw45 => (VOk.g (VOk.mv (d := (L 4 e_api_Row ((rd a1 x7_8).Rows))) rfl rfl))) ?_
                  refine OpsOk.consI rfl rfl rfl (.one rfl) rfl (fun hw45 => (GOk.fr (fr' := [(138, (L 4 e_api_Row y9_3_38)), (139, (L 4 e_api_Row ((rd a1 x7_8).Rows)))]) ⟨DLe.of_eq (cT hw45).symm, DLe.of_eq (cT hw45).symm, trivial⟩ (GOk.call rfl rfl cl19 rfl (watchbillref24_Rows.ok (ifT h47 hw45)) rfl))) ?_
                  refine OpsOk.consI rfl rfl rfl (.one rfl) rfl (fun hw45 => (GOk.fr (fr' := [(140, (.v (.bool t46)))]) ⟨DLe.of_eq (cT hw45).symm, trivial⟩ (VOk.g (VOk.not (b := t46) rfl rfl)))) ?_
                  refine OpsOk.cons rfl (.v (VOk.to (VOk.pickI (b := (t24.2.1 && y9_2_37)) (p := (!t46)) (q := false) rfl rfl (fun hp48 => (cT (t_beq hp48))) (fun hp48 => rfl)) (pickAnd (t24.2.1 && y9_2_37) (!t46))) rfl) ?_
                  exact .done (.mk ⟨.same _, .same _, .same _, .same _, .same _, trivial⟩ ⟨.same _, trivial⟩)
                refine Ok.test (b := ((t24.2.1 && y9_2_37) && (!t46))) rfl (fun hb49 => ?_) (fun hb49 => ?_)
                · replace H := ifT H hb49
                  refine Ok.seq ?_
                  refine Ok.region (σ' := ⟨[(4, (.v (.bool false)))], []⟩) ?_ ?_
                  · refine OpsOk.cons rfl (.v (VOk.asg (d := (.v (.bool false))) rfl rfl) rfl) ?_
                    exact .done (.mk ⟨.same _, trivial⟩ trivial)
                  refine Ok.le (σ' := ⟨[(4, (.v (.bool false)))], []⟩) (.mk ⟨.same _, trivial⟩ trivial) ?_
                  refine Ok.ret ?_
                  obtain rfl := Option.some.inj H
                  exact ⟨.inl rfl, ⟨_, (.cons (.tmp rfl) .nil), rfl⟩, trivial⟩
                · replace H := ifF H hb49
                  refine Ok.le (σ' := ⟨[(1, (L 2 e_watchbilllaw27_Step a1)), (5, (.bref 21 0)), (7, (.v (.int .i64 x7_8))), (8, (L 4 e_api_Row ((rd a1 x7_8).Rows)))], [(21, (.box .ex [(S y21_0_39), (.v (.int .u32 y21_1_40)), (.v (.bool y21_2_41)), (L 4 e_api_Row y21_3_42)]))]⟩) (.mk ⟨.same _, .same _, .same _, .same _, trivial⟩ ⟨.same _, trivial⟩) ?_
                  refine Ok.skip ?_
                  refine Ok.region (σ' := ⟨[(1, (L 2 e_watchbilllaw27_Step a1)), (5, (.bref 21 0)), (6, (L 4 e_api_Row ((rd a1 x7_8).Rows))), (7, (.v (.int .i64 x7_8)))], [(21, (.box .ex [(S y21_0_39), (.v (.int .u32 y21_1_40)), (.v (.bool y21_2_41)), (L 4 e_api_Row y21_3_42)]))]⟩) ?_ ?_
                  · refine OpsOk.cons rfl (.v (VOk.mv (d := (L 4 e_api_Row ((rd a1 x7_8).Rows))) rfl rfl) rfl) ?_
                    refine OpsOk.cons rfl (.v (VOk.asg (d := (L 4 e_api_Row ((rd a1 x7_8).Rows))) rfl rfl) rfl) ?_
                    exact .done (.mk ⟨.same _, .same _, .same _, .same _, trivial⟩ ⟨.same _, trivial⟩)
                  refine Ok.region (σ' := ⟨[(1, (L 2 e_watchbilllaw27_Step a1)), (5, (.bref 21 0)), (6, (L 4 e_api_Row ((rd a1 x7_8).Rows))), (7, (.v (.int .i64 (IntKind.i64.wrap (x7_8 + 1)))))], [(21, (.box .ex [(S y21_0_39), (.v (.int .u32 y21_1_40)), (.v (.bool y21_2_41)), (L 4 e_api_Row y21_3_42)]))]⟩) ?_ ?_
                  · refine OpsOk.cons rfl (.v (VOk.mv (d := (.v (.int .i64 x7_8))) rfl rfl) rfl) ?_
                    refine OpsOk.cons rfl (.v (VOk.arith (op := .add) (k := .i64) (a := x7_8) (b := 1) rfl rfl rfl rfl) rfl) ?_
                    refine OpsOk.cons rfl (.v (VOk.asg (d := (.v (.int .i64 (IntKind.i64.wrap (x7_8 + 1))))) rfl rfl) rfl) ?_
                    exact .done (.mk ⟨.same _, .same _, .same _, .same _, trivial⟩ ⟨.same _, trivial⟩)
                  exact ⟨m19, Nat.lt_succ_self m19, y21_0_39, y21_1_40, y21_2_41, y21_3_42, ((rd a1 x7_8).Rows), (IntKind.i64.wrap (x7_8 + 1)), rfl, H⟩
        · replace H := ifF H hb92
          refine Ok.le (σ' := ⟨[], []⟩) (.mk trivial trivial) ?_
          refine Ok.exit ?_
          refine Ok.seq ?_
          refine Ok.region (σ' := ⟨[(4, (.v (.bool true)))], []⟩) ?_ ?_
          · refine OpsOk.cons rfl (.v (VOk.asg (d := (.v (.bool true))) rfl rfl) rfl) ?_
            exact .done (.mk ⟨.same _, trivial⟩ trivial)
          refine Ok.le (σ' := ⟨[(4, (.v (.bool true)))], []⟩) (.mk ⟨.same _, trivial⟩ trivial) ?_
          refine Ok.ret ?_
          obtain rfl := Option.some.inj H
          exact ⟨.inl rfl, ⟨_, (.cons (.tmp rfl) .nil), rfl⟩, trivial⟩

/-! (*watchbill/subs.Sub).Copy: function 22 -/
def subs_Sub_Copy (a0 : T_subs_Sub) : Option (T_subs_Sub × T_subs_Sub) := ((slices_Clone_25 a0.Rows_).bind fun (t1 : (List T_api_Row)) => some ((T_subs_Sub.mk a0.List_ a0.Next_ a0.Begun_ t1), a0))
theorem subs_Sub_Copy.ok {a0 : T_subs_Sub} {r : T_subs_Sub × T_subs_Sub} (H : subs_Sub_Copy a0 = some r) (b : Nat) : Vx.Fn Try.prog 22 [(.bref 0 0)] [(0, (.box (.at b) [(S a0.List_), (.v (.int .u32 a0.Next_)), (.v (.bool a0.Begun_)), (L 4 e_api_Row a0.Rows_)])), (1000, .none)] (.bref 21 0) [(0, (.box (.at b) [(S r.2.List_), (.v (.int .u32 r.2.Next_)), (.v (.bool r.2.Begun_)), (L 4 e_api_Row r.2.Rows_)])), (1000, .none), (21, (.box .ex [(S r.1.List_), (.v (.int .u32 r.1.Next_)), (.v (.bool r.1.Begun_)), (L 4 e_api_Row r.1.Rows_)]))] := by
  unfold subs_Sub_Copy at H
  refine Vx.Fn.of_okR Try.func22 rfl (Nat.le_of_ble_eq_true rfl) ?_
  refine Ok.seq ?_
  refine Ok.region (σ' := ⟨[(0, (.bref 0 0))], [(0, (.box (.at b) [(S a0.List_), (.v (.int .u32 a0.Next_)), (.v (.bool a0.Begun_)), (L 4 e_api_Row a0.Rows_)]))]⟩) ?_ ?_
  · refine OpsOk.cons rfl (.v (VOk.asg (d := (.v (.pointer none))) rfl rfl) rfl) ?_
    exact .done (.mk ⟨.same _, trivial⟩ ⟨.same _, trivial⟩)
  refine Ok.seq ?_
  obtain ⟨t1, h2, H⟩ := bindE H
  refine Ok.le (σ' := ⟨[(0, (.bref 0 0))], [(0, (.box (.at b) [(S a0.List_), (.v (.int .u32 a0.Next_)), (.v (.bool a0.Begun_)), (L 4 e_api_Row a0.Rows_)]))]⟩) (.mk ⟨.same _, trivial⟩ ⟨.same _, trivial⟩) ?_
  refine Ok.drawE2 (σ' := ⟨[(2, (.bref 21 0))], [(0, (.box (.at b) [(S a0.List_), (.v (.int .u32 a0.Next_)), (.v (.bool a0.Begun_)), (L 4 e_api_Row a0.Rows_)])), (21, (.box .ex [(S ((T_subs_Sub.mk a0.List_ a0.Next_ a0.Begun_ t1).List_)), (.v (.int .u32 ((T_subs_Sub.mk a0.List_ a0.Next_ a0.Begun_ t1).Next_))), (.v (.bool ((T_subs_Sub.mk a0.List_ a0.Next_ a0.Begun_ t1).Begun_))), (L 4 e_api_Row ((T_subs_Sub.mk a0.List_ a0.Next_ a0.Begun_ t1).Rows_))]))]⟩) [⟨true, [(0, (.bref 0 0))], [(0, (.box (.at b) [(S a0.List_), (.v (.int .u32 a0.Next_)), (.v (.bool a0.Begun_)), (L 4 e_api_Row a0.Rows_)]))], (.bref 0 0), [], false, []⟩, ⟨true, [(3, (.bref 0 0))], [(0, (.box (.at b) [(S a0.List_), (.v (.int .u32 a0.Next_)), (.v (.bool a0.Begun_)), (L 4 e_api_Row a0.Rows_)]))], (.bref 0 0), [], false, []⟩, ⟨true, [(4, (.bref 0 0))], [(0, (.box (.at b) [(S a0.List_), (.v (.int .u32 a0.Next_)), (.v (.bool a0.Begun_)), (L 4 e_api_Row a0.Rows_)]))], (.bref 0 0), [], false, []⟩, ⟨true, [(5, (.bref 0 0))], [(0, (.box (.at b) [(S a0.List_), (.v (.int .u32 a0.Next_)), (.v (.bool a0.Begun_)), (L 4 e_api_Row a0.Rows_)]))], (S a0.List_), [], false, []⟩, ⟨true, [(0, (.bref 0 0))], [(0, (.box (.at b) [(S a0.List_), (.v (.int .u32 a0.Next_)), (.v (.bool a0.Begun_)), (L 4 e_api_Row a0.Rows_)]))], (.bref 0 0), [], false, []⟩, ⟨true, [(7, (.bref 0 0))], [(0, (.box (.at b) [(S a0.List_), (.v (.int .u32 a0.Next_)), (.v (.bool a0.Begun_)), (L 4 e_api_Row a0.Rows_)]))], (.bref 0 0), [], false, []⟩, ⟨true, [(8, (.bref 0 0))], [(0, (.box (.at b) [(S a0.List_), (.v (.int .u32 a0.Next_)), (.v (.bool a0.Begun_)), (L 4 e_api_Row a0.Rows_)]))], (.bref 0 1), [], false, []⟩, ⟨true, [(9, (.bref 0 1))], [(0, (.box (.at b) [(S a0.List_), (.v (.int .u32 a0.Next_)), (.v (.bool a0.Begun_)), (L 4 e_api_Row a0.Rows_)]))], (.v (.int .u32 a0.Next_)), [], false, []⟩, ⟨true, [(0, (.bref 0 0))], [(0, (.box (.at b) [(S a0.List_), (.v (.int .u32 a0.Next_)), (.v (.bool a0.Begun_)), (L 4 e_api_Row a0.Rows_)]))], (.bref 0 0), [], false, []⟩, ⟨true, [(11, (.bref 0 0))], [(0, (.box (.at b) [(S a0.List_), (.v (.int .u32 a0.Next_)), (.v (.bool a0.Begun_)), (L 4 e_api_Row a0.Rows_)]))], (.bref 0 0), [], false, []⟩, ⟨true, [(12, (.bref 0 0))], [(0, (.box (.at b) [(S a0.List_), (.v (.int .u32 a0.Next_)), (.v (.bool a0.Begun_)), (L 4 e_api_Row a0.Rows_)]))], (.bref 0 2), [], false, []⟩, ⟨true, [(13, (.bref 0 2))], [(0, (.box (.at b) [(S a0.List_), (.v (.int .u32 a0.Next_)), (.v (.bool a0.Begun_)), (L 4 e_api_Row a0.Rows_)]))], (.v (.bool a0.Begun_)), [], false, []⟩, ⟨true, [(0, (.bref 0 0))], [(0, (.box (.at b) [(S a0.List_), (.v (.int .u32 a0.Next_)), (.v (.bool a0.Begun_)), (L 4 e_api_Row a0.Rows_)]))], (.bref 0 0), [], false, []⟩, ⟨true, [(15, (.bref 0 0))], [(0, (.box (.at b) [(S a0.List_), (.v (.int .u32 a0.Next_)), (.v (.bool a0.Begun_)), (L 4 e_api_Row a0.Rows_)]))], (.bref 0 0), [], false, []⟩, ⟨true, [(16, (.bref 0 0))], [(0, (.box (.at b) [(S a0.List_), (.v (.int .u32 a0.Next_)), (.v (.bool a0.Begun_)), (L 4 e_api_Row a0.Rows_)]))], (.bref 0 3), [], false, []⟩, ⟨true, [(17, (.bref 0 3))], [(0, (.box (.at b) [(S a0.List_), (.v (.int .u32 a0.Next_)), (.v (.bool a0.Begun_)), (L 4 e_api_Row a0.Rows_)]))], (L 4 e_api_Row a0.Rows_), [], false, []⟩, ⟨true, [(18, (L 4 e_api_Row a0.Rows_))], [], (L 4 e_api_Row t1), [], false, []⟩, ⟨true, [(6, (S a0.List_)), (10, (.v (.int .u32 a0.Next_))), (14, (.v (.bool a0.Begun_))), (19, (L 4 e_api_Row t1))], [], (.agg (e_subs_Sub (T_subs_Sub.mk a0.List_ a0.Next_ a0.Begun_ t1))), [], false, []⟩, ⟨true, [(20, (.agg (e_subs_Sub (T_subs_Sub.mk a0.List_ a0.Next_ a0.Begun_ t1))))], [], (.bref 21 0), [(21, (.box .ex [(S ((T_subs_Sub.mk a0.List_ a0.Next_ a0.Begun_ t1).List_)), (.v (.int .u32 ((T_subs_Sub.mk a0.List_ a0.Next_ a0.Begun_ t1).Next_))), (.v (.bool ((T_subs_Sub.mk a0.List_ a0.Next_ a0.Begun_ t1).Begun_))), (L 4 e_api_Row ((T_subs_Sub.mk a0.List_ a0.Next_ a0.Begun_ t1).Rows_))]))], true, []⟩, ⟨true, [(21, (.bref 21 0))], [(21, (.box .ex [(S ((T_subs_Sub.mk a0.List_ a0.Next_ a0.Begun_ t1).List_)), (.v (.int .u32 ((T_subs_Sub.mk a0.List_ a0.Next_ a0.Begun_ t1).Next_))), (.v (.bool ((T_subs_Sub.mk a0.List_ a0.Next_ a0.Begun_ t1).Begun_))), (L 4 e_api_Row ((T_subs_Sub.mk a0.List_ a0.Next_ a0.Begun_ t1).Rows_))]))], (.bref 21 0), [], false, []⟩] [[], [0], [1], [2], [], [4], [5], [6], [], [8], [9], [10], [], [12], [13], [14], [15], [3, 7, 11, 16], [17], [18]] mixed (by kernel_rfl) ?_ ?_
  · refine TxtE2.cons ⟨.same _, trivial⟩ ⟨rfl, trivial⟩ (It2.val rfl rfl (fun T hT => (VOk.g (VOk.mv (d := (.bref 0 0)) rfl rfl)))) ?_
    refine TxtE2.cons ⟨.same _, trivial⟩ ⟨rfl, trivial⟩ (It2.val rfl rfl (fun T hT => (VOk.g (VOk.nilCheckB rfl rfl hT.1)))) ?_
    refine TxtE2.cons ⟨.same _, trivial⟩ ⟨rfl, trivial⟩ (It2.val rfl rfl (fun T hT => (VOk.g (VOk.to (VOk.fieldB rfl Try.underlying62 rfl sz9 rfl hT.1) rfl)))) ?_
    refine TxtE2.cons ⟨.same _, trivial⟩ ⟨rfl, trivial⟩ (It2.val rfl rfl (fun T hT => (VOk.g (VOk.loadB (d := (S a0.List_)) rfl Try.underlying9 rfl rfl hT.1 rfl)))) ?_
    refine TxtE2.cons ⟨.same _, trivial⟩ ⟨rfl, trivial⟩ (It2.val rfl rfl (fun T hT => (VOk.g (VOk.mv (d := (.bref 0 0)) rfl rfl)))) ?_
    refine TxtE2.cons ⟨.same _, trivial⟩ ⟨rfl, trivial⟩ (It2.val rfl rfl (fun T hT => (VOk.g (VOk.nilCheckB rfl rfl hT.1)))) ?_
    refine TxtE2.cons ⟨.same _, trivial⟩ ⟨rfl, trivial⟩ (It2.val rfl rfl (fun T hT => (VOk.g (VOk.to (VOk.fieldB rfl Try.underlying62 rfl sz22 rfl hT.1) rfl)))) ?_
    refine TxtE2.cons ⟨.same _, trivial⟩ ⟨rfl, trivial⟩ (It2.val rfl rfl (fun T hT => (VOk.g (VOk.loadB (d := (.v (.int .u32 a0.Next_))) rfl Try.underlying22 rfl rfl hT.1 rfl)))) ?_
    refine TxtE2.cons ⟨.same _, trivial⟩ ⟨rfl, trivial⟩ (It2.val rfl rfl (fun T hT => (VOk.g (VOk.mv (d := (.bref 0 0)) rfl rfl)))) ?_
    refine TxtE2.cons ⟨.same _, trivial⟩ ⟨rfl, trivial⟩ (It2.val rfl rfl (fun T hT => (VOk.g (VOk.nilCheckB rfl rfl hT.1)))) ?_
    refine TxtE2.cons ⟨.same _, trivial⟩ ⟨rfl, trivial⟩ (It2.val rfl rfl (fun T hT => (VOk.g (VOk.to (VOk.fieldB rfl Try.underlying62 rfl sz4 rfl hT.1) rfl)))) ?_
    refine TxtE2.cons ⟨.same _, trivial⟩ ⟨rfl, trivial⟩ (It2.val rfl rfl (fun T hT => (VOk.g (VOk.loadB (d := (.v (.bool a0.Begun_))) rfl Try.underlying4 rfl rfl hT.1 rfl)))) ?_
    refine TxtE2.cons ⟨.same _, trivial⟩ ⟨rfl, trivial⟩ (It2.val rfl rfl (fun T hT => (VOk.g (VOk.mv (d := (.bref 0 0)) rfl rfl)))) ?_
    refine TxtE2.cons ⟨.same _, trivial⟩ ⟨rfl, trivial⟩ (It2.val rfl rfl (fun T hT => (VOk.g (VOk.nilCheckB rfl rfl hT.1)))) ?_
    refine TxtE2.cons ⟨.same _, trivial⟩ ⟨rfl, trivial⟩ (It2.val rfl rfl (fun T hT => (VOk.g (VOk.to (VOk.fieldB rfl Try.underlying62 rfl sz28 rfl hT.1) rfl)))) ?_
    refine TxtE2.cons ⟨.same _, trivial⟩ ⟨rfl, trivial⟩ (It2.val rfl rfl (fun T hT => (VOk.g (VOk.loadB (d := (L 4 e_api_Row a0.Rows_)) rfl Try.underlying28 rfl rfl hT.1 rfl)))) ?_
    refine TxtE2.cons ⟨.same _, trivial⟩ trivial (It2.val rfl rfl (fun T hT => (GOk.call rfl rfl cl25 rfl (slices_Clone_25.ok h2) rfl))) ?_
    refine TxtE2.cons ⟨.same _, .same _, .same _, .same _, trivial⟩ trivial (It2.val rfl rfl (fun T hT => (VOk.g (VOk.to (d' := (.agg (e_subs_Sub (T_subs_Sub.mk a0.List_ a0.Next_ a0.Begun_ t1)))) (.build [none, none, none, some 4] [(0, 1), (1, 1), (2, 1), (3, 1)] rfl Try.underlying62 (fa62 Try.underlying62) zo62 rfl rfl) rfl)))) ?_
    refine TxtE2.cons ⟨.same _, trivial⟩ trivial (It2.box 21 (cells := [(S ((T_subs_Sub.mk a0.List_ a0.Next_ a0.Begun_ t1).List_)), (.v (.int .u32 ((T_subs_Sub.mk a0.List_ a0.Next_ a0.Begun_ t1).Next_))), (.v (.bool ((T_subs_Sub.mk a0.List_ a0.Next_ a0.Begun_ t1).Begun_))), (L 4 e_api_Row ((T_subs_Sub.mk a0.List_ a0.Next_ a0.Begun_ t1).Rows_))]) rfl rfl rfl rfl rfl) ?_
    refine TxtE2.cons ⟨.same _, trivial⟩ ⟨rfl, trivial⟩ (It2.val rfl rfl (fun T hT => (VOk.g (VOk.asg (d := (.bref 21 0)) rfl rfl)))) ?_
    exact .done (.mk ⟨.same _, trivial⟩ ⟨.same _, .same _, trivial⟩)
  refine Ok.le (σ' := ⟨[(2, (.bref 21 0))], [(0, (.box (.at b) [(S a0.List_), (.v (.int .u32 a0.Next_)), (.v (.bool a0.Begun_)), (L 4 e_api_Row a0.Rows_)])), (21, (.box .ex [(S ((T_subs_Sub.mk a0.List_ a0.Next_ a0.Begun_ t1).List_)), (.v (.int .u32 ((T_subs_Sub.mk a0.List_ a0.Next_ a0.Begun_ t1).Next_))), (.v (.bool ((T_subs_Sub.mk a0.List_ a0.Next_ a0.Begun_ t1).Begun_))), (L 4 e_api_Row ((T_subs_Sub.mk a0.List_ a0.Next_ a0.Begun_ t1).Rows_))]))]⟩) (.mk ⟨.same _, trivial⟩ ⟨.same _, .same _, trivial⟩) ?_
  refine Ok.ret ?_
  obtain rfl := Option.some.inj H
  exact ⟨.inl rfl, ⟨_, (.cons (.tmp rfl) .nil), rfl⟩, ⟨.same _, .none _, .same _, trivial⟩⟩

/-! watchbill/watchbillref26.Same: function 13 -/
def watchbillref26_Same (k : Nat) (a0 : T_api_Body) (a1 : T_api_Body) : Option Bool := (((if ((((a0.List_ == a1.List_) && (a0.Version == a1.Version)) && (a0.Full == a1.Full)) == true) = true then watchbillref24_Rows k a0.Rows a1.Rows else some default)).bind fun (t6 : Bool) => some ((((a0.List_ == a1.List_) && (a0.Version == a1.Version)) && (a0.Full == a1.Full)) && t6))
theorem watchbillref26_Same.ok {k : Nat} {a0 : T_api_Body} {a1 : T_api_Body} {r : Bool} (H : watchbillref26_Same k a0 a1 = some r) : Vx.Fn Try.prog 13 [(.agg (e_api_Body a0)), (.agg (e_api_Body a1))] [] (.v (.bool r)) [] := by
  unfold watchbillref26_Same at H
  refine Vx.Fn.of_okR Try.func13 rfl (Nat.le_of_ble_eq_true rfl) ?_
  refine Ok.seq ?_
  refine Ok.region (σ' := ⟨[(2, (.bref 2 0)), (3, (.bref 3 0))], [(2, (.box .ex [(S a0.List_), (.v (.int .u32 a0.Version)), (.v (.bool a0.Full)), (L 4 e_api_Row a0.Rows)])), (3, (.box .ex [(S a1.List_), (.v (.int .u32 a1.Version)), (.v (.bool a1.Full)), (L 4 e_api_Row a1.Rows)]))]⟩) ?_ ?_
  · refine OpsOk.cons rfl (OpOk.box 2 (cells := [(S a0.List_), (.v (.int .u32 a0.Version)), (.v (.bool a0.Full)), (L 4 e_api_Row a0.Rows)]) rfl rfl rfl rfl) ?_
    refine OpsOk.cons rfl (OpOk.box 3 (cells := [(S a1.List_), (.v (.int .u32 a1.Version)), (.v (.bool a1.Full)), (L 4 e_api_Row a1.Rows)]) rfl rfl rfl rfl) ?_
    refine OpsOk.cons rfl (.v (VOk.asg (d := (.v (.bool false))) rfl rfl) rfl) ?_
    exact .done (.mk ⟨.same _, .same _, trivial⟩ ⟨.same _, .same _, trivial⟩)
  refine Ok.seq ?_
  obtain ⟨t6, h7, H⟩ := bindE H
  refine Ok.region (σ' := ⟨[(4, (.v (.bool ((((a0.List_ == a1.List_) && (a0.Version == a1.Version)) && (a0.Full == a1.Full)) && t6))))], []⟩) ?_ ?_
  · refine OpsOk.cons rfl (.v (VOk.to (VOk.fieldB rfl Try.underlying34 rfl sz9 rfl rfl) rfl) rfl) ?_
    refine OpsOk.cons rfl (.v (VOk.loadB (d := (S a0.List_)) rfl Try.underlying9 rfl rfl rfl rfl) rfl) ?_
    refine OpsOk.cons rfl (.v (VOk.to (VOk.fieldB rfl Try.underlying34 rfl sz9 rfl rfl) rfl) rfl) ?_
    refine OpsOk.cons rfl (.v (VOk.loadB (d := (S a1.List_)) rfl Try.underlying9 rfl rfl rfl rfl) rfl) ?_
    refine OpsOk.cons rfl (.v (VOk.strOp (op := .eql) (a := a0.List_) (b := a1.List_) rfl rfl rfl rfl) rfl) ?_
    refine OpsOk.cons rfl (.v (VOk.mv (d := (.v (.bool (a0.List_ == a1.List_)))) rfl rfl) rfl) ?_
    refine OpsOk.consI rfl rfl rfl (.one rfl) rfl (fun hw1 => (VOk.g (VOk.to (VOk.fieldB rfl Try.underlying34 rfl sz22 rfl rfl) rfl))) ?_
    refine OpsOk.consI rfl rfl rfl (.one rfl) rfl (fun hw1 => (GOk.fr (fr' := [(11, (.bref 2 1))]) ⟨DLe.of_eq (cT hw1).symm, trivial⟩ (VOk.g (VOk.loadB (d := (.v (.int .u32 a0.Version))) rfl Try.underlying22 rfl rfl rfl rfl)))) ?_
    refine OpsOk.consI rfl rfl rfl (.one rfl) rfl (fun hw1 => (VOk.g (VOk.to (VOk.fieldB rfl Try.underlying34 rfl sz22 rfl rfl) rfl))) ?_
    refine OpsOk.consI rfl rfl rfl (.one rfl) rfl (fun hw1 => (GOk.fr (fr' := [(13, (.bref 3 1))]) ⟨DLe.of_eq (cT hw1).symm, trivial⟩ (VOk.g (VOk.loadB (d := (.v (.int .u32 a1.Version))) rfl Try.underlying22 rfl rfl rfl rfl)))) ?_
    refine OpsOk.consI rfl rfl rfl (.one rfl) rfl (fun hw1 => (GOk.fr (fr' := [(12, (.v (.int .u32 a0.Version))), (14, (.v (.int .u32 a1.Version)))]) ⟨DLe.of_eq (cT hw1).symm, DLe.of_eq (cT hw1).symm, trivial⟩ (VOk.g (VOk.arith (op := .eql) (k := .u32) (a := a0.Version) (b := a1.Version) rfl rfl rfl rfl)))) ?_
    refine OpsOk.cons rfl (.v (VOk.to (VOk.pickI (b := (a0.List_ == a1.List_)) (p := (a0.Version == a1.Version)) (q := false) rfl rfl (fun hp2 => (cT (t_beq hp2))) (fun hp2 => rfl)) (pickAnd (a0.List_ == a1.List_) (a0.Version == a1.Version))) rfl) ?_
    refine OpsOk.cons rfl (.v (VOk.mv (d := (.v (.bool ((a0.List_ == a1.List_) && (a0.Version == a1.Version))))) rfl rfl) rfl) ?_
    refine OpsOk.consI rfl rfl rfl (.one rfl) rfl (fun hw3 => (VOk.g (VOk.to (VOk.fieldB rfl Try.underlying34 rfl sz4 rfl rfl) rfl))) ?_
    refine OpsOk.consI rfl rfl rfl (.one rfl) rfl (fun hw3 => (GOk.fr (fr' := [(18, (.bref 2 2))]) ⟨DLe.of_eq (cT hw3).symm, trivial⟩ (VOk.g (VOk.loadB (d := (.v (.bool a0.Full))) rfl Try.underlying4 rfl rfl rfl rfl)))) ?_
    refine OpsOk.consI rfl rfl rfl (.one rfl) rfl (fun hw3 => (VOk.g (VOk.to (VOk.fieldB rfl Try.underlying34 rfl sz4 rfl rfl) rfl))) ?_
    refine OpsOk.consI rfl rfl rfl (.one rfl) rfl (fun hw3 => (GOk.fr (fr' := [(20, (.bref 3 2))]) ⟨DLe.of_eq (cT hw3).symm, trivial⟩ (VOk.g (VOk.loadB (d := (.v (.bool a1.Full))) rfl Try.underlying4 rfl rfl rfl rfl)))) ?_
    refine OpsOk.consI rfl rfl rfl (.one rfl) rfl (fun hw3 => (GOk.fr (fr' := [(19, (.v (.bool a0.Full))), (21, (.v (.bool a1.Full)))]) ⟨DLe.of_eq (cT hw3).symm, DLe.of_eq (cT hw3).symm, trivial⟩ (VOk.g (VOk.eqB (op := .eql) (p := a0.Full) (q := a1.Full) rfl (.inl rfl) Try.underlying4 rfl rfl)))) ?_
    refine OpsOk.cons rfl (.v (VOk.to (VOk.pickI (b := ((a0.List_ == a1.List_) && (a0.Version == a1.Version))) (p := (a0.Full == a1.Full)) (q := false) rfl rfl (fun hp4 => (cT (t_beq hp4))) (fun hp4 => rfl)) (pickAnd ((a0.List_ == a1.List_) && (a0.Version == a1.Version)) (a0.Full == a1.Full))) rfl) ?_
    refine OpsOk.cons rfl (.v (VOk.mv (d := (.v (.bool (((a0.List_ == a1.List_) && (a0.Version == a1.Version)) && (a0.Full == a1.Full))))) rfl rfl) rfl) ?_
    refine OpsOk.consI rfl rfl rfl (.one rfl) rfl (fun hw5 => (VOk.g (VOk.to (VOk.fieldB rfl Try.underlying34 rfl sz28 rfl rfl) rfl))) ?_
    refine OpsOk.consI rfl rfl rfl (.one rfl) rfl (fun hw5 => (GOk.fr (fr' := [(25, (.bref 2 3))]) ⟨DLe.of_eq (cT hw5).symm, trivial⟩ (VOk.g (VOk.loadB (d := (L 4 e_api_Row a0.Rows)) rfl Try.underlying28 rfl rfl rfl rfl)))) ?_
    refine OpsOk.consI rfl rfl rfl (.one rfl) rfl (fun hw5 => (VOk.g (VOk.to (VOk.fieldB rfl Try.underlying34 rfl sz28 rfl rfl) rfl))) ?_
    refine OpsOk.consI rfl rfl rfl (.one rfl) rfl (fun hw5 => (GOk.fr (fr' := [(27, (.bref 3 3))]) ⟨DLe.of_eq (cT hw5).symm, trivial⟩ (VOk.g (VOk.loadB (d := (L 4 e_api_Row a1.Rows)) rfl Try.underlying28 rfl rfl rfl rfl)))) ?_
    refine OpsOk.consI rfl rfl rfl (.one rfl) rfl (fun hw5 => (GOk.fr (fr' := [(26, (L 4 e_api_Row a0.Rows)), (28, (L 4 e_api_Row a1.Rows))]) ⟨DLe.of_eq (cT hw5).symm, DLe.of_eq (cT hw5).symm, trivial⟩ (GOk.call rfl rfl cl19 rfl (watchbillref24_Rows.ok (ifT h7 hw5)) rfl))) ?_
    refine OpsOk.cons rfl (.v (VOk.to (VOk.pickI (b := (((a0.List_ == a1.List_) && (a0.Version == a1.Version)) && (a0.Full == a1.Full))) (p := t6) (q := false) rfl rfl (fun hp8 => (cT (t_beq hp8))) (fun hp8 => rfl)) (pickAnd (((a0.List_ == a1.List_) && (a0.Version == a1.Version)) && (a0.Full == a1.Full)) t6)) rfl) ?_
    refine OpsOk.cons rfl (.v (VOk.asg (d := (.v (.bool ((((a0.List_ == a1.List_) && (a0.Version == a1.Version)) && (a0.Full == a1.Full)) && t6)))) rfl rfl) rfl) ?_
    exact .done (.mk ⟨.same _, trivial⟩ trivial)
  refine Ok.le (σ' := ⟨[(4, (.v (.bool ((((a0.List_ == a1.List_) && (a0.Version == a1.Version)) && (a0.Full == a1.Full)) && t6))))], []⟩) (.mk ⟨.same _, trivial⟩ trivial) ?_
  refine Ok.ret ?_
  obtain rfl := Option.some.inj H
  exact ⟨.inl rfl, ⟨_, (.cons (.tmp rfl) .nil), rfl⟩, trivial⟩

/-! watchbill/watchbilllaw27.SubsEnds: function 7 -/
def watchbilllaw27_SubsEnds.j1 (c0 : Str → Int → Bool → List T_api_Row → Int → Int → Option Bool) (a1 : Int) (a2 : List T_watchbilllaw27_Step) (x9_8 : Int) (t24 : T_api_Body × Bool × Int × T_subs_Sub) (x8_36 : Int) : Option Bool := (if ((((t24.2.1 == (t24.2.2.1 != 0)) && t24.2.1) || (decide (x8_36 > (IntKind.i64.wrap ((a1).tmod 8))))) || ((t24.2.2.1 != 0) && (x8_36 != (IntKind.i64.wrap ((a1).tmod 8))))) = true then some false else c0 t24.2.2.2.List_ t24.2.2.2.Next_ t24.2.2.2.Begun_ t24.2.2.2.Rows_ x8_36 (IntKind.i64.wrap (x9_8 + 1)))
def watchbilllaw27_SubsEnds.l0 (k : Nat) (a1 : Int) (a2 : List T_watchbilllaw27_Step) : Nat → Str → Int → Bool → List T_api_Row → Int → Int → Option Bool
  | 0, _, _, _, _, _, _ => none
  | m19 + 1, y27_0_9, y27_1_10, y27_2_11, y27_3_12, x8_7, x9_8 => (if (decide (x9_8 < (a2.length : Int))) = true then ((subs_Sub_Copy (T_subs_Sub.mk y27_0_9 y27_1_10 y27_2_11 y27_3_12)).bind fun (t20 : T_subs_Sub × T_subs_Sub) => (if (0 : Int) ≤ x9_8 ∧ x9_8 < (a2.length : Int) then (if (0 : Int) ≤ x9_8 ∧ x9_8 < (a2.length : Int) then ((subs_Sub_Next k t20.2 ((rd a2 x9_8).Rows) ((rd a2 x9_8).Full)).bind fun (t24 : T_api_Body × Bool × Int × T_subs_Sub) => (if (0 : Int) ≤ x9_8 ∧ x9_8 < (a2.length : Int) then (if (0 : Int) ≤ x9_8 ∧ x9_8 < (a2.length : Int) then ((subs_Sub_Next k t20.1 ((rd a2 x9_8).Rows) ((rd a2 x9_8).Full)).bind fun (t28 : T_api_Body × Bool × Int × T_subs_Sub) => ((watchbillref26_Same k t24.1 t28.1).bind fun (t30 : Bool) => (if (((!t30) || (!(t24.2.1 == t28.2.1))) || (t24.2.2.1 != t28.2.2.1)) = true then some false else (if t24.2.1 = true then watchbilllaw27_SubsEnds.j1 (watchbilllaw27_SubsEnds.l0 k a1 a2 m19) a1 a2 x9_8 t24 (IntKind.i64.wrap (x8_7 + 1)) else watchbilllaw27_SubsEnds.j1 (watchbilllaw27_SubsEnds.l0 k a1 a2 m19) a1 a2 x9_8 t24 x8_7)))) else none) else none)) else none) else none)) else some true)
def watchbilllaw27_SubsEnds (k : Nat) (a0 : Str) (a1 : Int) (a2 : List T_watchbilllaw27_Step) : Option Bool := ((watchbilllaw27_awake k).bind fun (t1 : Bool) => (if (!t1) = true then some false else ((watchbilllaw27_Few k a2).bind fun (t3 : Bool) => (if (!t3) = true then some true else ((subs_New a0 (IntKind.u32.wrap (4294967295 - (IntKind.u32.wrap ((a1).tmod 8))))).bind fun (t5 : T_subs_Sub) => watchbilllaw27_SubsEnds.l0 k a1 a2 k t5.List_ t5.Next_ t5.Begun_ t5.Rows_ 0 0)))))
theorem watchbilllaw27_SubsEnds.ok {k : Nat} {a0 : Str} {a1 : Int} {a2 : List T_watchbilllaw27_Step} {r : Bool} (H : watchbilllaw27_SubsEnds k a0 a1 a2 = some r) : Vx.Fn Try.prog 7 [(S a0), (.v (.int .u8 a1)), (L 2 e_watchbilllaw27_Step a2)] [] (.v (.bool r)) [] := by
  unfold watchbilllaw27_SubsEnds at H
  refine Vx.Fn.of_okR Try.func7 rfl (Nat.le_of_ble_eq_true rfl) ?_
  refine Ok.seq ?_
  refine Ok.region (σ' := ⟨[(0, (S a0)), (1, (.v (.int .u8 a1))), (2, (L 2 e_watchbilllaw27_Step a2))], []⟩) ?_ ?_
  · refine OpsOk.cons rfl (.v (VOk.asg (d := (.v (.bool false))) rfl rfl) rfl) ?_
    exact .done (.mk ⟨.same _, .same _, .same _, trivial⟩ trivial)
  refine Ok.seq ?_
  refine Ok.seq ?_
  obtain ⟨t1, h2, H⟩ := bindE H
  refine Ok.region (σ' := ⟨[(0, (S a0)), (1, (.v (.int .u8 a1))), (2, (L 2 e_watchbilllaw27_Step a2)), (18, (.v (.bool (!t1))))], []⟩) ?_ ?_
  · refine OpsOk.cons rfl (.g (GOk.call rfl rfl cl8 rfl (watchbilllaw27_awake.ok h2) rfl) rfl) ?_
    refine OpsOk.cons rfl (.v (VOk.not (b := t1) rfl rfl) rfl) ?_
    exact .done (.mk ⟨.same _, .same _, .same _, .same _, trivial⟩ trivial)
  refine Ok.test (b := (!t1)) rfl (fun hb50 => ?_) (fun hb50 => ?_)
  · replace H := ifT H hb50
    refine Ok.seq ?_
    refine Ok.region (σ' := ⟨[(6, (.v (.bool false)))], []⟩) ?_ ?_
    · refine OpsOk.cons rfl (.v (VOk.asg (d := (.v (.bool false))) rfl rfl) rfl) ?_
      exact .done (.mk ⟨.same _, trivial⟩ trivial)
    refine Ok.le (σ' := ⟨[(6, (.v (.bool false)))], []⟩) (.mk ⟨.same _, trivial⟩ trivial) ?_
    refine Ok.ret ?_
    obtain rfl := Option.some.inj H
    exact ⟨.inl rfl, ⟨_, (.cons (.tmp rfl) .nil), rfl⟩, trivial⟩
  · replace H := ifF H hb50
    refine Ok.le (σ' := ⟨[(0, (S a0)), (1, (.v (.int .u8 a1))), (2, (L 2 e_watchbilllaw27_Step a2))], []⟩) (.mk ⟨.same _, .same _, .same _, trivial⟩ trivial) ?_
    refine Ok.skip ?_
    refine Ok.seq ?_
    refine Ok.seq ?_
    obtain ⟨t3, h4, H⟩ := bindE H
    refine Ok.region (σ' := ⟨[(0, (S a0)), (1, (.v (.int .u8 a1))), (2, (L 2 e_watchbilllaw27_Step a2)), (21, (.v (.bool (!t3))))], []⟩) ?_ ?_
    · refine OpsOk.cons rfl (.v (VOk.mv (d := (L 2 e_watchbilllaw27_Step a2)) rfl rfl) rfl) ?_
      refine OpsOk.cons rfl (.g (GOk.call rfl rfl cl9 rfl (watchbilllaw27_Few.ok h4) rfl) rfl) ?_
      refine OpsOk.cons rfl (.v (VOk.not (b := t3) rfl rfl) rfl) ?_
      exact .done (.mk ⟨.same _, .same _, .same _, .same _, trivial⟩ trivial)
    refine Ok.test (b := (!t3)) rfl (fun hb49 => ?_) (fun hb49 => ?_)
    · replace H := ifT H hb49
      refine Ok.seq ?_
      refine Ok.region (σ' := ⟨[(6, (.v (.bool true)))], []⟩) ?_ ?_
      · refine OpsOk.cons rfl (.v (VOk.asg (d := (.v (.bool true))) rfl rfl) rfl) ?_
        exact .done (.mk ⟨.same _, trivial⟩ trivial)
      refine Ok.le (σ' := ⟨[(6, (.v (.bool true)))], []⟩) (.mk ⟨.same _, trivial⟩ trivial) ?_
      refine Ok.ret ?_
      obtain rfl := Option.some.inj H
      exact ⟨.inl rfl, ⟨_, (.cons (.tmp rfl) .nil), rfl⟩, trivial⟩
    · replace H := ifF H hb49
      refine Ok.le (σ' := ⟨[(0, (S a0)), (1, (.v (.int .u8 a1))), (2, (L 2 e_watchbilllaw27_Step a2))], []⟩) (.mk ⟨.same _, .same _, .same _, trivial⟩ trivial) ?_
      refine Ok.skip ?_
      refine Ok.seq ?_
      obtain ⟨t5, h6, H⟩ := bindE H
      refine Ok.region (σ' := ⟨[(1, (.v (.int .u8 a1))), (2, (L 2 e_watchbilllaw27_Step a2)), (7, (.bref 27 0))], [(27, (.box .ex [(S t5.List_), (.v (.int .u32 t5.Next_)), (.v (.bool t5.Begun_)), (L 4 e_api_Row t5.Rows_)]))]⟩) ?_ ?_
      · refine OpsOk.cons rfl (.v (VOk.mv (d := (S a0)) rfl rfl) rfl) ?_
        refine OpsOk.cons rfl (.v (VOk.mv (d := (.v (.int .u8 a1))) rfl rfl) rfl) ?_
        refine OpsOk.cons rfl (.v (VOk.rem (a := a1) (b := 8) rfl rfl rfl (by decide)) rfl) ?_
        refine OpsOk.cons rfl (.v (VOk.convInt (a := ((a1).tmod 8)) rfl (by rw [Try.underlying5]; rfl) Try.underlying22 rfl) rfl) ?_
        refine OpsOk.cons rfl (.v (VOk.arith (op := .sub) (k := .u32) (a := 4294967295) (b := (IntKind.u32.wrap ((a1).tmod 8))) rfl rfl rfl rfl) rfl) ?_
        refine OpsOk.cons rfl (OpOk.callP 27 1540 rfl rfl cl10 (subs_New.ok h6) rfl rfl rfl rfl) ?_
        refine OpsOk.cons rfl (.v (VOk.asg (d := (.bref 27 0)) rfl rfl) rfl) ?_
        exact .done (.mk ⟨.same _, .same _, .same _, trivial⟩ ⟨.same _, trivial⟩)
      refine Ok.seq ?_
      refine Ok.region (σ' := ⟨[(1, (.v (.int .u8 a1))), (2, (L 2 e_watchbilllaw27_Step a2)), (7, (.bref 27 0)), (8, (.v (.int .i64 0)))], [(27, (.box .ex [(S t5.List_), (.v (.int .u32 t5.Next_)), (.v (.bool t5.Begun_)), (L 4 e_api_Row t5.Rows_)]))]⟩) ?_ ?_
      · refine OpsOk.cons rfl (.v (VOk.asg (d := (.v (.int .i64 0))) rfl rfl) rfl) ?_
        exact .done (.mk ⟨.same _, .same _, .same _, .same _, trivial⟩ ⟨.same _, trivial⟩)
      refine Ok.seq ?_
      refine Ok.seq ?_
      refine Ok.region (σ' := ⟨[(1, (.v (.int .u8 a1))), (2, (L 2 e_watchbilllaw27_Step a2)), (7, (.bref 27 0)), (8, (.v (.int .i64 0))), (9, (.v (.int .i64 0)))], [(27, (.box .ex [(S t5.List_), (.v (.int .u32 t5.Next_)), (.v (.bool t5.Begun_)), (L 4 e_api_Row t5.Rows_)]))]⟩) ?_ ?_
      · refine OpsOk.cons rfl (.v (VOk.asg (d := (.v (.int .i64 0))) rfl rfl) rfl) ?_
        exact .done (.mk ⟨.same _, .same _, .same _, .same _, .same _, trivial⟩ ⟨.same _, trivial⟩)
      refine Ok.block ?_
      refine Ok.le (σ' := ⟨[(1, (.v (.int .u8 a1))), (2, (L 2 e_watchbilllaw27_Step a2)), (7, (.bref 27 0)), (8, (.v (.int .i64 0))), (9, (.v (.int .i64 0)))], [(27, (.box .ex [(S t5.List_), (.v (.int .u32 t5.Next_)), (.v (.bool t5.Begun_)), (L 4 e_api_Row t5.Rows_)]))]⟩) (.mk ⟨.same _, .same _, .same _, .same _, .same _, trivial⟩ ⟨.same _, trivial⟩) ?_
      refine Ok.loop (fun m19 σ => ∃ (y27_0_9 : Str) (y27_1_10 : Int) (y27_2_11 : Bool) (y27_3_12 : List T_api_Row) (x8_7 : Int) (x9_8 : Int), σ = ⟨[(1, (.v (.int .u8 a1))), (2, (L 2 e_watchbilllaw27_Step a2)), (7, (.bref 27 0)), (8, (.v (.int .i64 x8_7))), (9, (.v (.int .i64 x9_8)))], [(27, (.box .ex [(S y27_0_9), (.v (.int .u32 y27_1_10)), (.v (.bool y27_2_11)), (L 4 e_api_Row y27_3_12)]))]⟩ ∧ watchbilllaw27_SubsEnds.l0 k a1 a2 m19 y27_0_9 y27_1_10 y27_2_11 y27_3_12 x8_7 x9_8 = some r) k ⟨t5.List_, t5.Next_, t5.Begun_, t5.Rows_, 0, 0, rfl, H⟩ ?_
      rintro m19 σ ⟨y27_0_9, y27_1_10, y27_2_11, y27_3_12, x8_7, x9_8, rfl, H⟩
      cases m19 with
      | zero => exact absurd H (by simp [watchbilllaw27_SubsEnds.l0])
      | succ m19 =>
        unfold watchbilllaw27_SubsEnds.l0 at H
        refine Ok.seq ?_
        refine Ok.seq ?_
        refine Ok.region (σ' := ⟨[(1, (.v (.int .u8 a1))), (2, (L 2 e_watchbilllaw27_Step a2)), (7, (.bref 27 0)), (8, (.v (.int .i64 x8_7))), (9, (.v (.int .i64 x9_8))), (31, (.v (.bool (decide (x9_8 < (a2.length : Int))))))], [(27, (.box .ex [(S y27_0_9), (.v (.int .u32 y27_1_10)), (.v (.bool y27_2_11)), (L 4 e_api_Row y27_3_12)]))]⟩) ?_ ?_
        · refine OpsOk.cons rfl (.v (VOk.mv (d := (.v (.int .i64 x9_8))) rfl rfl) rfl) ?_
          refine OpsOk.cons rfl (.v (VOk.mv (d := (L 2 e_watchbilllaw27_Step a2)) rfl rfl) rfl) ?_
          refine OpsOk.cons rfl (.v (VOk.lenL (e := e_watchbilllaw27_Step) (xs := a2) rfl Try.underlying23 rfl) rfl) ?_
          refine OpsOk.cons rfl (.v (VOk.arith (op := .lss) (k := .i64) (a := x9_8) (b := (a2.length : Int)) rfl rfl rfl rfl) rfl) ?_
          exact .done (.mk ⟨.same _, .same _, .same _, .same _, .same _, .same _, trivial⟩ ⟨.same _, trivial⟩)
        refine Ok.test (b := (decide (x9_8 < (a2.length : Int)))) rfl (fun hb48 => ?_) (fun hb48 => ?_)
        · replace H := ifT H hb48
          refine Ok.le (σ' := ⟨[(1, (.v (.int .u8 a1))), (2, (L 2 e_watchbilllaw27_Step a2)), (7, (.bref 27 0)), (8, (.v (.int .i64 x8_7))), (9, (.v (.int .i64 x9_8)))], [(27, (.box .ex [(S y27_0_9), (.v (.int .u32 y27_1_10)), (.v (.bool y27_2_11)), (L 4 e_api_Row y27_3_12)]))]⟩) (.mk ⟨.same _, .same _, .same _, .same _, .same _, trivial⟩ ⟨.same _, trivial⟩) ?_
          refine Ok.skip ?_
          refine Ok.seq ?_
          refine Ok.block ?_
          refine Ok.seq ?_
          obtain ⟨t20, h21, H⟩ := bindE H
          refine Ok.region (σ' := ⟨[(1, (.v (.int .u8 a1))), (2, (L 2 e_watchbilllaw27_Step a2)), (7, (.bref 27 0)), (8, (.v (.int .i64 x8_7))), (9, (.v (.int .i64 x9_8))), (10, (.bref 35 0))], [(27, (.box .ex [(S t20.2.List_), (.v (.int .u32 t20.2.Next_)), (.v (.bool t20.2.Begun_)), (L 4 e_api_Row t20.2.Rows_)])), (35, (.box .ex [(S t20.1.List_), (.v (.int .u32 t20.1.Next_)), (.v (.bool t20.1.Begun_)), (L 4 e_api_Row t20.1.Rows_)]))]⟩) ?_ ?_
          · refine OpsOk.cons rfl (.v (VOk.mv (d := (.bref 27 0)) rfl rfl) rfl) ?_
            refine OpsOk.cons rfl (OpOk.callT 27 1540 35 rfl rfl cl22 (fun b => ((subs_Sub_Copy.ok h21) b)) rfl rfl rfl rfl rfl rfl rfl rfl) ?_
            refine OpsOk.cons rfl (.v (VOk.asg (d := (.bref 35 0)) rfl rfl) rfl) ?_
            exact .done (.mk ⟨.same _, .same _, .same _, .same _, .same _, .same _, trivial⟩ ⟨.same _, .same _, trivial⟩)
          refine Ok.seq ?_
          obtain ⟨c22, H⟩ := assertE H
          obtain ⟨c23, H⟩ := assertE H
          obtain ⟨t24, h25, H⟩ := bindE H
          refine Ok.le (σ' := ⟨[(1, (.v (.int .u8 a1))), (2, (L 2 e_watchbilllaw27_Step a2)), (7, (.bref 27 0)), (8, (.v (.int .i64 x8_7))), (9, (.v (.int .i64 x9_8))), (10, (.bref 35 0))], [(27, (.box .ex [(S t20.2.List_), (.v (.int .u32 t20.2.Next_)), (.v (.bool t20.2.Begun_)), (L 4 e_api_Row t20.2.Rows_)])), (35, (.box .ex [(S t20.1.List_), (.v (.int .u32 t20.1.Next_)), (.v (.bool t20.1.Begun_)), (L 4 e_api_Row t20.1.Rows_)]))]⟩) (.mk ⟨.same _, .same _, .same _, .same _, .same _, .same _, trivial⟩ ⟨.same _, .same _, trivial⟩) ?_
          refine Ok.drawE2 (σ' := ⟨[(1, (.v (.int .u8 a1))), (2, (L 2 e_watchbilllaw27_Step a2)), (7, (.bref 27 0)), (8, (.v (.int .i64 x8_7))), (9, (.v (.int .i64 x9_8))), (10, (.bref 35 0)), (11, (.bref 11 0)), (12, (.v (.bool t24.2.1))), (13, (.v (.int .i64 t24.2.2.1)))], [(11, (.box .ex [(S t24.1.List_), (.v (.int .u32 t24.1.Version)), (.v (.bool t24.1.Full)), (L 4 e_api_Row t24.1.Rows)])), (27, (.box .ex [(S t24.2.2.2.List_), (.v (.int .u32 t24.2.2.2.Next_)), (.v (.bool t24.2.2.2.Begun_)), (L 4 e_api_Row t24.2.2.2.Rows_)])), (35, (.box .ex [(S t20.1.List_), (.v (.int .u32 t20.1.Next_)), (.v (.bool t20.1.Begun_)), (L 4 e_api_Row t20.1.Rows_)]))]⟩) [⟨true, [(7, (.bref 27 0))], [(27, (.box .ex [(S t20.2.List_), (.v (.int .u32 t20.2.Next_)), (.v (.bool t20.2.Begun_)), (L 4 e_api_Row t20.2.Rows_)]))], (.bref 27 0), [], false, []⟩, ⟨true, [(2, (L 2 e_watchbilllaw27_Step a2))], [], (L 2 e_watchbilllaw27_Step a2), [], false, []⟩, ⟨true, [(9, (.v (.int .i64 x9_8)))], [], (.v (.int .i64 x9_8)), [], false, []⟩, ⟨true, [(38, (L 2 e_watchbilllaw27_Step a2)), (39, (.v (.int .i64 x9_8)))], [], (.fp (e_watchbilllaw27_Step (rd a2 x9_8)) 0), [], false, []⟩, ⟨true, [(40, (.fp (e_watchbilllaw27_Step (rd a2 x9_8)) 0))], [], (.fp (e_watchbilllaw27_Step (rd a2 x9_8)) 0), [], false, []⟩, ⟨true, [(41, (.fp (e_watchbilllaw27_Step (rd a2 x9_8)) 0))], [], (L 4 e_api_Row ((rd a2 x9_8).Rows)), [], false, []⟩, ⟨true, [(2, (L 2 e_watchbilllaw27_Step a2))], [], (L 2 e_watchbilllaw27_Step a2), [], false, []⟩, ⟨true, [(9, (.v (.int .i64 x9_8)))], [], (.v (.int .i64 x9_8)), [], false, []⟩, ⟨true, [(43, (L 2 e_watchbilllaw27_Step a2)), (44, (.v (.int .i64 x9_8)))], [], (.fp (e_watchbilllaw27_Step (rd a2 x9_8)) 0), [], false, []⟩, ⟨true, [(45, (.fp (e_watchbilllaw27_Step (rd a2 x9_8)) 0))], [], (.fp (e_watchbilllaw27_Step (rd a2 x9_8)) 1), [], false, []⟩, ⟨true, [(46, (.fp (e_watchbilllaw27_Step (rd a2 x9_8)) 1))], [], (.v (.bool ((rd a2 x9_8).Full))), [], false, []⟩, ⟨true, [(37, (.bref 27 0)), (42, (L 4 e_api_Row ((rd a2 x9_8).Rows))), (47, (.v (.bool ((rd a2 x9_8).Full))))], [(27, (.box .ex [(S t20.2.List_), (.v (.int .u32 t20.2.Next_)), (.v (.bool t20.2.Begun_)), (L 4 e_api_Row t20.2.Rows_)]))], (.tup [(.agg (e_api_Body t24.1)), (.v (.bool t24.2.1)), (.v (.int .i64 t24.2.2.1))]), [(27, (.box .ex [(S t24.2.2.2.List_), (.v (.int .u32 t24.2.2.2.Next_)), (.v (.bool t24.2.2.2.Begun_)), (L 4 e_api_Row t24.2.2.2.Rows_)]))], false, []⟩, ⟨true, [(48, (.tup [(.agg (e_api_Body t24.1)), (.v (.bool t24.2.1)), (.v (.int .i64 t24.2.2.1))]))], [], (.tup [(.agg (e_api_Body t24.1)), (.v (.bool t24.2.1)), (.v (.int .i64 t24.2.2.1))]), [], false, []⟩, ⟨true, [(36, (.tup [(.agg (e_api_Body t24.1)), (.v (.bool t24.2.1)), (.v (.int .i64 t24.2.2.1))]))], [], (.agg (e_api_Body t24.1)), [], false, []⟩, ⟨true, [(36, (.tup [(.agg (e_api_Body t24.1)), (.v (.bool t24.2.1)), (.v (.int .i64 t24.2.2.1))]))], [], (.v (.bool t24.2.1)), [], false, []⟩, ⟨true, [(36, (.tup [(.agg (e_api_Body t24.1)), (.v (.bool t24.2.1)), (.v (.int .i64 t24.2.2.1))]))], [], (.v (.int .i64 t24.2.2.1)), [], false, []⟩, ⟨true, [], [], (.bref 11 0), [(11, (.box .ex [(S ([] : Str)), (.v (.int .u32 0)), (.v (.bool false)), (L 4 e_api_Row ([] : List T_api_Row))]))], true, []⟩, ⟨true, [(11, (.bref 11 0)), (49, (.agg (e_api_Body t24.1)))], [(11, (.box .ex [(S ([] : Str)), (.v (.int .u32 0)), (.v (.bool false)), (L 4 e_api_Row ([] : List T_api_Row))]))], .junk, [(11, (.box .ex [(S t24.1.List_), (.v (.int .u32 t24.1.Version)), (.v (.bool t24.1.Full)), (L 4 e_api_Row t24.1.Rows)]))], false, []⟩, ⟨true, [(50, (.v (.bool t24.2.1)))], [], (.v (.bool t24.2.1)), [], false, []⟩, ⟨true, [(51, (.v (.int .i64 t24.2.2.1)))], [], (.v (.int .i64 t24.2.2.1)), [], false, []⟩] [[], [], [], [1, 2], [3], [4], [], [], [6, 7], [8], [9], [0, 5, 10], [11], [12], [12], [12], [], [13, 16], [14], [15]] mixed (by kernel_rfl) ?_ ?_
          · refine TxtE2.cons ⟨.same _, trivial⟩ ⟨rfl, trivial⟩ (It2.val rfl rfl (fun T hT => (VOk.g (VOk.mv (d := (.bref 27 0)) rfl rfl)))) ?_
            refine TxtE2.cons ⟨.same _, trivial⟩ trivial (It2.val rfl rfl (fun T hT => (VOk.g (VOk.mv (d := (L 2 e_watchbilllaw27_Step a2)) rfl rfl)))) ?_
            refine TxtE2.cons ⟨.same _, trivial⟩ trivial (It2.val rfl rfl (fun T hT => (VOk.g (VOk.mv (d := (.v (.int .i64 x9_8))) rfl rfl)))) ?_
            refine TxtE2.cons ⟨.same _, .same _, trivial⟩ trivial (It2.val rfl rfl (fun T hT => (VOk.g (VOk.indexL (sz := 2) (e := e_watchbilllaw27_Step) (xs := a2) (i := x9_8) rfl Try.underlying23 sz32 rfl rfl c22)))) ?_
            refine TxtE2.cons ⟨.same _, trivial⟩ trivial (It2.val rfl rfl (fun T hT => (VOk.g (VOk.to (VOk.fieldFp rfl Try.underlying32 rfl sz28 rfl) rfl)))) ?_
            refine TxtE2.cons ⟨.same _, trivial⟩ trivial (It2.val rfl rfl (fun T hT => (VOk.g (VOk.loadFp (d := (L 4 e_api_Row ((rd a2 x9_8).Rows))) rfl Try.underlying28 rfl rfl rfl)))) ?_
            refine TxtE2.cons ⟨.same _, trivial⟩ trivial (It2.val rfl rfl (fun T hT => (VOk.g (VOk.mv (d := (L 2 e_watchbilllaw27_Step a2)) rfl rfl)))) ?_
            refine TxtE2.cons ⟨.same _, trivial⟩ trivial (It2.val rfl rfl (fun T hT => (VOk.g (VOk.mv (d := (.v (.int .i64 x9_8))) rfl rfl)))) ?_
            refine TxtE2.cons ⟨.same _, .same _, trivial⟩ trivial (It2.val rfl rfl (fun T hT => (VOk.g (VOk.indexL (sz := 2) (e := e_watchbilllaw27_Step) (xs := a2) (i := x9_8) rfl Try.underlying23 sz32 rfl rfl c23)))) ?_
            refine TxtE2.cons ⟨.same _, trivial⟩ trivial (It2.val rfl rfl (fun T hT => (VOk.g (VOk.to (VOk.fieldFp rfl Try.underlying32 rfl sz4 rfl) rfl)))) ?_
            refine TxtE2.cons ⟨.same _, trivial⟩ trivial (It2.val rfl rfl (fun T hT => (VOk.g (VOk.loadFp (d := (.v (.bool ((rd a2 x9_8).Full)))) rfl Try.underlying4 rfl rfl rfl)))) ?_
            refine TxtE2.cons ⟨.same _, .same _, .same _, trivial⟩ ⟨rfl, trivial⟩ (It2.callB (ds0 := [(.bref 27 0), (L 4 e_api_Row ((rd a2 x9_8).Rows)), (.v (.bool ((rd a2 x9_8).Full)))]) 27 rfl rfl rfl cl11 (fun b => ((subs_Sub_Next.ok h25) b)) rfl rfl rfl rfl rfl rfl rfl rfl) ?_
            refine TxtE2.cons ⟨.same _, trivial⟩ trivial (It2.val rfl rfl (fun T hT => (VOk.g (VOk.mv (d := (.tup [(.agg (e_api_Body t24.1)), (.v (.bool t24.2.1)), (.v (.int .i64 t24.2.2.1))])) rfl rfl)))) ?_
            refine TxtE2.cons ⟨.same _, trivial⟩ trivial (It2.val rfl rfl (fun T hT => (VOk.g (VOk.extract (d := (.agg (e_api_Body t24.1))) rfl rfl rfl)))) ?_
            refine TxtE2.cons ⟨.same _, trivial⟩ trivial (It2.val rfl rfl (fun T hT => (VOk.g (VOk.extract (d := (.v (.bool t24.2.1))) rfl rfl rfl)))) ?_
            refine TxtE2.cons ⟨.same _, trivial⟩ trivial (It2.val rfl rfl (fun T hT => (VOk.g (VOk.extract (d := (.v (.int .i64 t24.2.2.1))) rfl rfl rfl)))) ?_
            refine TxtE2.cons trivial trivial (It2.alloc 11 [none, none, none, some 4] rfl rfl zo34 rfl rfl) ?_
            refine TxtE2.cons ⟨.same _, .same _, trivial⟩ ⟨rfl, trivial⟩ (It2.store rfl rfl sz34 rfl rfl rfl rfl rfl rfl rfl rfl) ?_
            refine TxtE2.cons ⟨.same _, trivial⟩ trivial (It2.val rfl rfl (fun T hT => (VOk.g (VOk.asg (d := (.v (.bool t24.2.1))) rfl rfl)))) ?_
            refine TxtE2.cons ⟨.same _, trivial⟩ trivial (It2.val rfl rfl (fun T hT => (VOk.g (VOk.asg (d := (.v (.int .i64 t24.2.2.1))) rfl rfl)))) ?_
            exact .done (.mk ⟨.same _, .same _, .same _, .same _, .same _, .same _, .same _, .same _, .same _, trivial⟩ ⟨.same _, .same _, .same _, trivial⟩)
          refine Ok.seq ?_
          obtain ⟨c26, H⟩ := assertE H
          obtain ⟨c27, H⟩ := assertE H
          obtain ⟨t28, h29, H⟩ := bindE H
          refine Ok.le (σ' := ⟨[(1, (.v (.int .u8 a1))), (2, (L 2 e_watchbilllaw27_Step a2)), (7, (.bref 27 0)), (8, (.v (.int .i64 x8_7))), (9, (.v (.int .i64 x9_8))), (10, (.bref 35 0)), (11, (.bref 11 0)), (12, (.v (.bool t24.2.1))), (13, (.v (.int .i64 t24.2.2.1)))], [(11, (.box .ex [(S t24.1.List_), (.v (.int .u32 t24.1.Version)), (.v (.bool t24.1.Full)), (L 4 e_api_Row t24.1.Rows)])), (27, (.box .ex [(S t24.2.2.2.List_), (.v (.int .u32 t24.2.2.2.Next_)), (.v (.bool t24.2.2.2.Begun_)), (L 4 e_api_Row t24.2.2.2.Rows_)])), (35, (.box .ex [(S t20.1.List_), (.v (.int .u32 t20.1.Next_)), (.v (.bool t20.1.Begun_)), (L 4 e_api_Row t20.1.Rows_)]))]⟩) (.mk ⟨.same _, .same _, .same _, .same _, .same _, .same _, .same _, .same _, .same _, trivial⟩ ⟨.same _, .same _, .same _, trivial⟩) ?_
          refine Ok.drawE2 (σ' := ⟨[(1, (.v (.int .u8 a1))), (2, (L 2 e_watchbilllaw27_Step a2)), (7, (.bref 27 0)), (8, (.v (.int .i64 x8_7))), (9, (.v (.int .i64 x9_8))), (11, (.bref 11 0)), (12, (.v (.bool t24.2.1))), (13, (.v (.int .i64 t24.2.2.1))), (14, (.bref 14 0)), (15, (.v (.bool t28.2.1))), (16, (.v (.int .i64 t28.2.2.1)))], [(11, (.box .ex [(S t24.1.List_), (.v (.int .u32 t24.1.Version)), (.v (.bool t24.1.Full)), (L 4 e_api_Row t24.1.Rows)])), (14, (.box .ex [(S t28.1.List_), (.v (.int .u32 t28.1.Version)), (.v (.bool t28.1.Full)), (L 4 e_api_Row t28.1.Rows)])), (27, (.box .ex [(S t24.2.2.2.List_), (.v (.int .u32 t24.2.2.2.Next_)), (.v (.bool t24.2.2.2.Begun_)), (L 4 e_api_Row t24.2.2.2.Rows_)]))]⟩) [⟨true, [(10, (.bref 35 0))], [(35, (.box .ex [(S t20.1.List_), (.v (.int .u32 t20.1.Next_)), (.v (.bool t20.1.Begun_)), (L 4 e_api_Row t20.1.Rows_)]))], (.bref 35 0), [], false, []⟩, ⟨true, [(2, (L 2 e_watchbilllaw27_Step a2))], [], (L 2 e_watchbilllaw27_Step a2), [], false, []⟩, ⟨true, [(9, (.v (.int .i64 x9_8)))], [], (.v (.int .i64 x9_8)), [], false, []⟩, ⟨true, [(54, (L 2 e_watchbilllaw27_Step a2)), (55, (.v (.int .i64 x9_8)))], [], (.fp (e_watchbilllaw27_Step (rd a2 x9_8)) 0), [], false, []⟩, ⟨true, [(56, (.fp (e_watchbilllaw27_Step (rd a2 x9_8)) 0))], [], (.fp (e_watchbilllaw27_Step (rd a2 x9_8)) 0), [], false, []⟩, ⟨true, [(57, (.fp (e_watchbilllaw27_Step (rd a2 x9_8)) 0))], [], (L 4 e_api_Row ((rd a2 x9_8).Rows)), [], false, []⟩, ⟨true, [(2, (L 2 e_watchbilllaw27_Step a2))], [], (L 2 e_watchbilllaw27_Step a2), [], false, []⟩, ⟨true, [(9, (.v (.int .i64 x9_8)))], [], (.v (.int .i64 x9_8)), [], false, []⟩, ⟨true, [(59, (L 2 e_watchbilllaw27_Step a2)), (60, (.v (.int .i64 x9_8)))], [], (.fp (e_watchbilllaw27_Step (rd a2 x9_8)) 0), [], false, []⟩, ⟨true, [(61, (.fp (e_watchbilllaw27_Step (rd a2 x9_8)) 0))], [], (.fp (e_watchbilllaw27_Step (rd a2 x9_8)) 1), [], false, []⟩, ⟨true, [(62, (.fp (e_watchbilllaw27_Step (rd a2 x9_8)) 1))], [], (.v (.bool ((rd a2 x9_8).Full))), [], false, []⟩, ⟨true, [(53, (.bref 35 0)), (58, (L 4 e_api_Row ((rd a2 x9_8).Rows))), (63, (.v (.bool ((rd a2 x9_8).Full))))], [(35, (.box .ex [(S t20.1.List_), (.v (.int .u32 t20.1.Next_)), (.v (.bool t20.1.Begun_)), (L 4 e_api_Row t20.1.Rows_)]))], (.tup [(.agg (e_api_Body t28.1)), (.v (.bool t28.2.1)), (.v (.int .i64 t28.2.2.1))]), [(35, (.box .ex [(S t28.2.2.2.List_), (.v (.int .u32 t28.2.2.2.Next_)), (.v (.bool t28.2.2.2.Begun_)), (L 4 e_api_Row t28.2.2.2.Rows_)]))], false, []⟩, ⟨true, [(64, (.tup [(.agg (e_api_Body t28.1)), (.v (.bool t28.2.1)), (.v (.int .i64 t28.2.2.1))]))], [], (.tup [(.agg (e_api_Body t28.1)), (.v (.bool t28.2.1)), (.v (.int .i64 t28.2.2.1))]), [], false, []⟩, ⟨true, [(52, (.tup [(.agg (e_api_Body t28.1)), (.v (.bool t28.2.1)), (.v (.int .i64 t28.2.2.1))]))], [], (.agg (e_api_Body t28.1)), [], false, []⟩, ⟨true, [(52, (.tup [(.agg (e_api_Body t28.1)), (.v (.bool t28.2.1)), (.v (.int .i64 t28.2.2.1))]))], [], (.v (.bool t28.2.1)), [], false, []⟩, ⟨true, [(52, (.tup [(.agg (e_api_Body t28.1)), (.v (.bool t28.2.1)), (.v (.int .i64 t28.2.2.1))]))], [], (.v (.int .i64 t28.2.2.1)), [], false, []⟩, ⟨true, [], [], (.bref 14 0), [(14, (.box .ex [(S ([] : Str)), (.v (.int .u32 0)), (.v (.bool false)), (L 4 e_api_Row ([] : List T_api_Row))]))], true, []⟩, ⟨true, [(14, (.bref 14 0)), (65, (.agg (e_api_Body t28.1)))], [(14, (.box .ex [(S ([] : Str)), (.v (.int .u32 0)), (.v (.bool false)), (L 4 e_api_Row ([] : List T_api_Row))]))], .junk, [(14, (.box .ex [(S t28.1.List_), (.v (.int .u32 t28.1.Version)), (.v (.bool t28.1.Full)), (L 4 e_api_Row t28.1.Rows)]))], false, []⟩, ⟨true, [(66, (.v (.bool t28.2.1)))], [], (.v (.bool t28.2.1)), [], false, []⟩, ⟨true, [(67, (.v (.int .i64 t28.2.2.1)))], [], (.v (.int .i64 t28.2.2.1)), [], false, []⟩] [[], [], [], [1, 2], [3], [4], [], [], [6, 7], [8], [9], [0, 5, 10], [11], [12], [12], [12], [], [13, 16], [14], [15]] mixed (by kernel_rfl) ?_ ?_
          · refine TxtE2.cons ⟨.same _, trivial⟩ ⟨rfl, trivial⟩ (It2.val rfl rfl (fun T hT => (VOk.g (VOk.mv (d := (.bref 35 0)) rfl rfl)))) ?_
            refine TxtE2.cons ⟨.same _, trivial⟩ trivial (It2.val rfl rfl (fun T hT => (VOk.g (VOk.mv (d := (L 2 e_watchbilllaw27_Step a2)) rfl rfl)))) ?_
            refine TxtE2.cons ⟨.same _, trivial⟩ trivial (It2.val rfl rfl (fun T hT => (VOk.g (VOk.mv (d := (.v (.int .i64 x9_8))) rfl rfl)))) ?_
            refine TxtE2.cons ⟨.same _, .same _, trivial⟩ trivial (It2.val rfl rfl (fun T hT => (VOk.g (VOk.indexL (sz := 2) (e := e_watchbilllaw27_Step) (xs := a2) (i := x9_8) rfl Try.underlying23 sz32 rfl rfl c26)))) ?_
            refine TxtE2.cons ⟨.same _, trivial⟩ trivial (It2.val rfl rfl (fun T hT => (VOk.g (VOk.to (VOk.fieldFp rfl Try.underlying32 rfl sz28 rfl) rfl)))) ?_
            refine TxtE2.cons ⟨.same _, trivial⟩ trivial (It2.val rfl rfl (fun T hT => (VOk.g (VOk.loadFp (d := (L 4 e_api_Row ((rd a2 x9_8).Rows))) rfl Try.underlying28 rfl rfl rfl)))) ?_
            refine TxtE2.cons ⟨.same _, trivial⟩ trivial (It2.val rfl rfl (fun T hT => (VOk.g (VOk.mv (d := (L 2 e_watchbilllaw27_Step a2)) rfl rfl)))) ?_
            refine TxtE2.cons ⟨.same _, trivial⟩ trivial (It2.val rfl rfl (fun T hT => (VOk.g (VOk.mv (d := (.v (.int .i64 x9_8))) rfl rfl)))) ?_
            refine TxtE2.cons ⟨.same _, .same _, trivial⟩ trivial (It2.val rfl rfl (fun T hT => (VOk.g (VOk.indexL (sz := 2) (e := e_watchbilllaw27_Step) (xs := a2) (i := x9_8) rfl Try.underlying23 sz32 rfl rfl c27)))) ?_
            refine TxtE2.cons ⟨.same _, trivial⟩ trivial (It2.val rfl rfl (fun T hT => (VOk.g (VOk.to (VOk.fieldFp rfl Try.underlying32 rfl sz4 rfl) rfl)))) ?_
            refine TxtE2.cons ⟨.same _, trivial⟩ trivial (It2.val rfl rfl (fun T hT => (VOk.g (VOk.loadFp (d := (.v (.bool ((rd a2 x9_8).Full)))) rfl Try.underlying4 rfl rfl rfl)))) ?_
            refine TxtE2.cons ⟨.same _, .same _, .same _, trivial⟩ ⟨rfl, trivial⟩ (It2.callB (ds0 := [(.bref 35 0), (L 4 e_api_Row ((rd a2 x9_8).Rows)), (.v (.bool ((rd a2 x9_8).Full)))]) 35 rfl rfl rfl cl11 (fun b => ((subs_Sub_Next.ok h29) b)) rfl rfl rfl rfl rfl rfl rfl rfl) ?_
            refine TxtE2.cons ⟨.same _, trivial⟩ trivial (It2.val rfl rfl (fun T hT => (VOk.g (VOk.mv (d := (.tup [(.agg (e_api_Body t28.1)), (.v (.bool t28.2.1)), (.v (.int .i64 t28.2.2.1))])) rfl rfl)))) ?_
            refine TxtE2.cons ⟨.same _, trivial⟩ trivial (It2.val rfl rfl (fun T hT => (VOk.g (VOk.extract (d := (.agg (e_api_Body t28.1))) rfl rfl rfl)))) ?_
            refine TxtE2.cons ⟨.same _, trivial⟩ trivial (It2.val rfl rfl (fun T hT => (VOk.g (VOk.extract (d := (.v (.bool t28.2.1))) rfl rfl rfl)))) ?_
            refine TxtE2.cons ⟨.same _, trivial⟩ trivial (It2.val rfl rfl (fun T hT => (VOk.g (VOk.extract (d := (.v (.int .i64 t28.2.2.1))) rfl rfl rfl)))) ?_
            refine TxtE2.cons trivial trivial (It2.alloc 14 [none, none, none, some 4] rfl rfl zo34 rfl rfl) ?_
            refine TxtE2.cons ⟨.same _, .same _, trivial⟩ ⟨rfl, trivial⟩ (It2.store rfl rfl sz34 rfl rfl rfl rfl rfl rfl rfl rfl) ?_
            refine TxtE2.cons ⟨.same _, trivial⟩ trivial (It2.val rfl rfl (fun T hT => (VOk.g (VOk.asg (d := (.v (.bool t28.2.1))) rfl rfl)))) ?_
            refine TxtE2.cons ⟨.same _, trivial⟩ trivial (It2.val rfl rfl (fun T hT => (VOk.g (VOk.asg (d := (.v (.int .i64 t28.2.2.1))) rfl rfl)))) ?_
            exact .done (.mk ⟨.same _, .same _, .same _, .same _, .same _, .same _, .same _, .same _, .same _, .same _, .same _, trivial⟩ ⟨.same _, .same _, .same _, trivial⟩)
          refine Ok.seq ?_
          refine Ok.seq ?_
          obtain ⟨t30, h31, H⟩ := bindE H
          refine Ok.region (σ' := ⟨[(1, (.v (.int .u8 a1))), (2, (L 2 e_watchbilllaw27_Step a2)), (7, (.bref 27 0)), (8, (.v (.int .i64 x8_7))), (9, (.v (.int .i64 x9_8))), (12, (.v (.bool t24.2.1))), (13, (.v (.int .i64 t24.2.2.1))), (81, (.v (.bool (((!t30) || (!(t24.2.1 == t28.2.1))) || (t24.2.2.1 != t28.2.2.1)))))], [(27, (.box .ex [(S t24.2.2.2.List_), (.v (.int .u32 t24.2.2.2.Next_)), (.v (.bool t24.2.2.2.Begun_)), (L 4 e_api_Row t24.2.2.2.Rows_)]))]⟩) ?_ ?_
          · refine OpsOk.cons rfl (.v (VOk.to (d' := (.agg (e_api_Body t24.1))) (.loadBAgg rfl Try.underlying34 rfl sz34 rfl rfl rfl) rfl) rfl) ?_
            refine OpsOk.cons rfl (.v (VOk.to (d' := (.agg (e_api_Body t28.1))) (.loadBAgg rfl Try.underlying34 rfl sz34 rfl rfl rfl) rfl) rfl) ?_
            refine OpsOk.cons rfl (.g (GOk.call rfl rfl cl13 rfl (watchbillref26_Same.ok h31) rfl) rfl) ?_
            refine OpsOk.cons rfl (.v (VOk.not (b := t30) rfl rfl) rfl) ?_
            refine OpsOk.cons rfl (.v (VOk.mv (d := (.v (.bool (!t30)))) rfl rfl) rfl) ?_
            refine OpsOk.consI rfl rfl rfl (.one rfl) rfl (fun hw32 => (VOk.g (VOk.mv (d := (.v (.bool t24.2.1))) rfl rfl))) ?_
            refine OpsOk.consI rfl rfl rfl (.one rfl) rfl (fun hw32 => (VOk.g (VOk.mv (d := (.v (.bool t28.2.1))) rfl rfl))) ?_
            refine OpsOk.consI rfl rfl rfl (.one rfl) rfl (fun hw32 => (GOk.fr (fr' := [(73, (.v (.bool t24.2.1))), (74, (.v (.bool t28.2.1)))]) ⟨DLe.of_eq (cT hw32).symm, DLe.of_eq (cT hw32).symm, trivial⟩ (VOk.g (VOk.eqB (op := .neq) (p := t24.2.1) (q := t28.2.1) rfl (.inr rfl) Try.underlying4 rfl rfl)))) ?_
            refine OpsOk.cons rfl (.v (VOk.to (VOk.pickI (b := (!t30)) (p := true) (q := (!(t24.2.1 == t28.2.1))) rfl rfl (fun hp33 => rfl) (fun hp33 => (cT (f_beq hp33)))) (pickOr (!t30) (!(t24.2.1 == t28.2.1)))) rfl) ?_
            refine OpsOk.cons rfl (.v (VOk.mv (d := (.v (.bool ((!t30) || (!(t24.2.1 == t28.2.1)))))) rfl rfl) rfl) ?_
            refine OpsOk.consI rfl rfl rfl (.one rfl) rfl (fun hw34 => (VOk.g (VOk.mv (d := (.v (.int .i64 t24.2.2.1))) rfl rfl))) ?_
            refine OpsOk.consI rfl rfl rfl (.one rfl) rfl (fun hw34 => (VOk.g (VOk.mv (d := (.v (.int .i64 t28.2.2.1))) rfl rfl))) ?_
            refine OpsOk.consI rfl rfl rfl (.one rfl) rfl (fun hw34 => (GOk.fr (fr' := [(78, (.v (.int .i64 t24.2.2.1))), (79, (.v (.int .i64 t28.2.2.1)))]) ⟨DLe.of_eq (cT hw34).symm, DLe.of_eq (cT hw34).symm, trivial⟩ (VOk.g (VOk.arith (op := .neq) (k := .i64) (a := t24.2.2.1) (b := t28.2.2.1) rfl rfl rfl rfl)))) ?_
            refine OpsOk.cons rfl (.v (VOk.to (VOk.pickI (b := ((!t30) || (!(t24.2.1 == t28.2.1)))) (p := true) (q := (t24.2.2.1 != t28.2.2.1)) rfl rfl (fun hp35 => rfl) (fun hp35 => (cT (f_beq hp35)))) (pickOr ((!t30) || (!(t24.2.1 == t28.2.1))) (t24.2.2.1 != t28.2.2.1))) rfl) ?_
            exact .done (.mk ⟨.same _, .same _, .same _, .same _, .same _, .same _, .same _, .same _, trivial⟩ ⟨.same _, trivial⟩)
          refine Ok.test (b := (((!t30) || (!(t24.2.1 == t28.2.1))) || (t24.2.2.1 != t28.2.2.1))) rfl (fun hb47 => ?_) (fun hb47 => ?_)
          · replace H := ifT H hb47
            refine Ok.seq ?_
            refine Ok.region (σ' := ⟨[(6, (.v (.bool false)))], []⟩) ?_ ?_
            · refine OpsOk.cons rfl (.v (VOk.asg (d := (.v (.bool false))) rfl rfl) rfl) ?_
              exact .done (.mk ⟨.same _, trivial⟩ trivial)
            refine Ok.le (σ' := ⟨[(6, (.v (.bool false)))], []⟩) (.mk ⟨.same _, trivial⟩ trivial) ?_
            refine Ok.ret ?_
            obtain rfl := Option.some.inj H
            exact ⟨.inl rfl, ⟨_, (.cons (.tmp rfl) .nil), rfl⟩, trivial⟩
          · replace H := ifF H hb47
            refine Ok.le (σ' := ⟨[(1, (.v (.int .u8 a1))), (2, (L 2 e_watchbilllaw27_Step a2)), (7, (.bref 27 0)), (8, (.v (.int .i64 x8_7))), (9, (.v (.int .i64 x9_8))), (12, (.v (.bool t24.2.1))), (13, (.v (.int .i64 t24.2.2.1)))], [(27, (.box .ex [(S t24.2.2.2.List_), (.v (.int .u32 t24.2.2.2.Next_)), (.v (.bool t24.2.2.2.Begun_)), (L 4 e_api_Row t24.2.2.2.Rows_)]))]⟩) (.mk ⟨.same _, .same _, .same _, .same _, .same _, .same _, .same _, trivial⟩ ⟨.same _, trivial⟩) ?_
            refine Ok.skip ?_
            refine Ok.meet (fun σ => ∃ (x8_36 : Int), σ = ⟨[(1, (.v (.int .u8 a1))), (2, (L 2 e_watchbilllaw27_Step a2)), (7, (.bref 27 0)), (8, (.v (.int .i64 x8_36))), (9, (.v (.int .i64 x9_8))), (12, (.v (.bool t24.2.1))), (13, (.v (.int .i64 t24.2.2.1)))], [(27, (.box .ex [(S t24.2.2.2.List_), (.v (.int .u32 t24.2.2.2.Next_)), (.v (.bool t24.2.2.2.Begun_)), (L 4 e_api_Row t24.2.2.2.Rows_)]))]⟩ ∧ watchbilllaw27_SubsEnds.j1 (watchbilllaw27_SubsEnds.l0 k a1 a2 m19) a1 a2 x9_8 t24 x8_36 = some r) ?_ ?_
            · refine Ok.seq ?_
              refine Ok.region (σ' := ⟨[(1, (.v (.int .u8 a1))), (2, (L 2 e_watchbilllaw27_Step a2)), (7, (.bref 27 0)), (8, (.v (.int .i64 x8_7))), (9, (.v (.int .i64 x9_8))), (12, (.v (.bool t24.2.1))), (13, (.v (.int .i64 t24.2.2.1))), (82, (.v (.bool t24.2.1)))], [(27, (.box .ex [(S t24.2.2.2.List_), (.v (.int .u32 t24.2.2.2.Next_)), (.v (.bool t24.2.2.2.Begun_)), (L 4 e_api_Row t24.2.2.2.Rows_)]))]⟩) ?_ ?_
              · refine OpsOk.cons rfl (.v (VOk.mv (d := (.v (.bool t24.2.1))) rfl rfl) rfl) ?_
                exact .done (.mk ⟨.same _, .same _, .same _, .same _, .same _, .same _, .same _, .same _, trivial⟩ ⟨.same _, trivial⟩)
              refine Ok.test (b := t24.2.1) rfl (fun hb46 => ?_) (fun hb46 => ?_)
              · replace H := ifT H hb46
                refine Ok.region (σ' := ⟨[(1, (.v (.int .u8 a1))), (2, (L 2 e_watchbilllaw27_Step a2)), (7, (.bref 27 0)), (8, (.v (.int .i64 (IntKind.i64.wrap (x8_7 + 1))))), (9, (.v (.int .i64 x9_8))), (12, (.v (.bool t24.2.1))), (13, (.v (.int .i64 t24.2.2.1)))], [(27, (.box .ex [(S t24.2.2.2.List_), (.v (.int .u32 t24.2.2.2.Next_)), (.v (.bool t24.2.2.2.Begun_)), (L 4 e_api_Row t24.2.2.2.Rows_)]))]⟩) ?_ ?_
                · refine OpsOk.cons rfl (.v (VOk.mv (d := (.v (.int .i64 x8_7))) rfl rfl) rfl) ?_
                  refine OpsOk.cons rfl (.v (VOk.arith (op := .add) (k := .i64) (a := x8_7) (b := 1) rfl rfl rfl rfl) rfl) ?_
                  refine OpsOk.cons rfl (.v (VOk.asg (d := (.v (.int .i64 (IntKind.i64.wrap (x8_7 + 1))))) rfl rfl) rfl) ?_
                  exact .done (.mk ⟨.same _, .same _, .same _, .same _, .same _, .same _, .same _, trivial⟩ ⟨.same _, trivial⟩)
                exact ⟨(IntKind.i64.wrap (x8_7 + 1)), rfl, H⟩
              · replace H := ifF H hb46
                refine Ok.le (σ' := ⟨[(1, (.v (.int .u8 a1))), (2, (L 2 e_watchbilllaw27_Step a2)), (7, (.bref 27 0)), (8, (.v (.int .i64 x8_7))), (9, (.v (.int .i64 x9_8))), (12, (.v (.bool t24.2.1))), (13, (.v (.int .i64 t24.2.2.1)))], [(27, (.box .ex [(S t24.2.2.2.List_), (.v (.int .u32 t24.2.2.2.Next_)), (.v (.bool t24.2.2.2.Begun_)), (L 4 e_api_Row t24.2.2.2.Rows_)]))]⟩) (.mk ⟨.same _, .same _, .same _, .same _, .same _, .same _, .same _, trivial⟩ ⟨.same _, trivial⟩) ?_
                refine Ok.skip ?_
                exact ⟨x8_7, rfl, H⟩
            · rintro σ ⟨x8_36, rfl, H⟩
              unfold watchbilllaw27_SubsEnds.j1 at H
              refine Ok.seq ?_
              refine Ok.region (σ' := ⟨[(1, (.v (.int .u8 a1))), (2, (L 2 e_watchbilllaw27_Step a2)), (7, (.bref 27 0)), (8, (.v (.int .i64 x8_36))), (9, (.v (.int .i64 x9_8))), (109, (.v (.bool ((((t24.2.1 == (t24.2.2.1 != 0)) && t24.2.1) || (decide (x8_36 > (IntKind.i64.wrap ((a1).tmod 8))))) || ((t24.2.2.1 != 0) && (x8_36 != (IntKind.i64.wrap ((a1).tmod 8))))))))], [(27, (.box .ex [(S t24.2.2.2.List_), (.v (.int .u32 t24.2.2.2.Next_)), (.v (.bool t24.2.2.2.Begun_)), (L 4 e_api_Row t24.2.2.2.Rows_)]))]⟩) ?_ ?_
              · refine OpsOk.cons rfl (.v (VOk.mv (d := (.v (.bool t24.2.1))) rfl rfl) rfl) ?_
                refine OpsOk.cons rfl (.v (VOk.mv (d := (.v (.int .i64 t24.2.2.1))) rfl rfl) rfl) ?_
                refine OpsOk.cons rfl (.v (VOk.arith (op := .neq) (k := .i64) (a := t24.2.2.1) (b := 0) rfl rfl rfl rfl) rfl) ?_
                refine OpsOk.cons rfl (.v (VOk.eqB (op := .eql) (p := t24.2.1) (q := (t24.2.2.1 != 0)) rfl (.inl rfl) Try.underlying4 rfl rfl) rfl) ?_
                refine OpsOk.cons rfl (.v (VOk.mv (d := (.v (.bool (t24.2.1 == (t24.2.2.1 != 0))))) rfl rfl) rfl) ?_
                refine OpsOk.consI rfl rfl rfl (.one rfl) rfl (fun hw37 => (VOk.g (VOk.mv (d := (.v (.bool t24.2.1))) rfl rfl))) ?_
                refine OpsOk.cons rfl (.v (VOk.to (VOk.pickI (b := (t24.2.1 == (t24.2.2.1 != 0))) (p := t24.2.1) (q := false) rfl rfl (fun hp38 => (cT (t_beq hp38))) (fun hp38 => rfl)) (pickAnd (t24.2.1 == (t24.2.2.1 != 0)) t24.2.1)) rfl) ?_
                refine OpsOk.cons rfl (.v (VOk.mv (d := (.v (.bool ((t24.2.1 == (t24.2.2.1 != 0)) && t24.2.1)))) rfl rfl) rfl) ?_
                refine OpsOk.consI rfl rfl rfl (.one rfl) rfl (fun hw39 => (VOk.g (VOk.mv (d := (.v (.int .i64 x8_36))) rfl rfl))) ?_
                refine OpsOk.consI rfl rfl rfl (.one rfl) rfl (fun hw39 => (VOk.g (VOk.mv (d := (.v (.int .u8 a1))) rfl rfl))) ?_
                refine OpsOk.consI rfl rfl rfl (.one rfl) rfl (fun hw39 => (GOk.fr (fr' := [(94, (.v (.int .u8 a1)))]) ⟨DLe.of_eq (cT hw39).symm, trivial⟩ (VOk.g (VOk.rem (a := a1) (b := 8) rfl rfl rfl (by decide))))) ?_
                refine OpsOk.consI rfl rfl rfl (.one rfl) rfl (fun hw39 => (GOk.fr (fr' := [(95, (.v (.int .u8 ((a1).tmod 8))))]) ⟨DLe.of_eq (cT hw39).symm, trivial⟩ (VOk.g (VOk.convInt (a := ((a1).tmod 8)) rfl (by rw [Try.underlying5]; rfl) Try.underlying3 rfl)))) ?_
                refine OpsOk.consI rfl rfl rfl (.one rfl) rfl (fun hw39 => (GOk.fr (fr' := [(93, (.v (.int .i64 x8_36))), (96, (.v (.int .i64 (IntKind.i64.wrap ((a1).tmod 8)))))]) ⟨DLe.of_eq (cT hw39).symm, DLe.of_eq (cT hw39).symm, trivial⟩ (VOk.g (VOk.arith (op := .gtr) (k := .i64) (a := x8_36) (b := (IntKind.i64.wrap ((a1).tmod 8))) rfl rfl rfl rfl)))) ?_
                refine OpsOk.cons rfl (.v (VOk.to (VOk.pickI (b := ((t24.2.1 == (t24.2.2.1 != 0)) && t24.2.1)) (p := true) (q := (decide (x8_36 > (IntKind.i64.wrap ((a1).tmod 8))))) rfl rfl (fun hp40 => rfl) (fun hp40 => (cT (f_beq hp40)))) (pickOr ((t24.2.1 == (t24.2.2.1 != 0)) && t24.2.1) (decide (x8_36 > (IntKind.i64.wrap ((a1).tmod 8)))))) rfl) ?_
                refine OpsOk.cons rfl (.v (VOk.mv (d := (.v (.bool (((t24.2.1 == (t24.2.2.1 != 0)) && t24.2.1) || (decide (x8_36 > (IntKind.i64.wrap ((a1).tmod 8)))))))) rfl rfl) rfl) ?_
                refine OpsOk.consI rfl rfl rfl (.one rfl) rfl (fun hw41 => (VOk.g (VOk.mv (d := (.v (.int .i64 t24.2.2.1))) rfl rfl))) ?_
                refine OpsOk.consI rfl rfl rfl (.one rfl) rfl (fun hw41 => (GOk.fr (fr' := [(100, (.v (.int .i64 t24.2.2.1)))]) ⟨DLe.of_eq (cT hw41).symm, trivial⟩ (VOk.g (VOk.arith (op := .neq) (k := .i64) (a := t24.2.2.1) (b := 0) rfl rfl rfl rfl)))) ?_
                refine OpsOk.consI rfl rfl rfl (.one rfl) rfl (fun hw41 => (GOk.fr (fr' := [(101, (.v (.bool (t24.2.2.1 != 0))))]) ⟨DLe.of_eq (cT hw41).symm, trivial⟩ (VOk.g (VOk.mv (d := (.v (.bool (t24.2.2.1 != 0)))) rfl rfl)))) ?_
                refine OpsOk.consI rfl rfl rfl (.two rfl) rfl (fun hw42 => (VOk.g (VOk.mv (d := (.v (.int .i64 x8_36))) rfl rfl))) ?_
                refine OpsOk.consI rfl rfl rfl (.two rfl) rfl (fun hw42 => (VOk.g (VOk.mv (d := (.v (.int .u8 a1))) rfl rfl))) ?_
                refine OpsOk.consI rfl rfl rfl (.two rfl) rfl (fun hw42 => (GOk.fr (fr' := [(104, (.v (.int .u8 a1)))]) ⟨DLe.of_eq (cT hw42).symm, trivial⟩ (VOk.g (VOk.rem (a := a1) (b := 8) rfl rfl rfl (by decide))))) ?_
                refine OpsOk.consI rfl rfl rfl (.two rfl) rfl (fun hw42 => (GOk.fr (fr' := [(105, (.v (.int .u8 ((a1).tmod 8))))]) ⟨DLe.of_eq (cT hw42).symm, trivial⟩ (VOk.g (VOk.convInt (a := ((a1).tmod 8)) rfl (by rw [Try.underlying5]; rfl) Try.underlying3 rfl)))) ?_
                refine OpsOk.consI rfl rfl rfl (.two rfl) rfl (fun hw42 => (GOk.fr (fr' := [(103, (.v (.int .i64 x8_36))), (106, (.v (.int .i64 (IntKind.i64.wrap ((a1).tmod 8)))))]) ⟨DLe.of_eq (cT hw42).symm, DLe.of_eq (cT hw42).symm, trivial⟩ (VOk.g (VOk.arith (op := .neq) (k := .i64) (a := x8_36) (b := (IntKind.i64.wrap ((a1).tmod 8))) rfl rfl rfl rfl)))) ?_
                refine OpsOk.consI rfl rfl rfl (.one rfl) rfl (fun hw41 => (VOk.g (VOk.to (VOk.pickI (b := (t24.2.2.1 != 0)) (p := (x8_36 != (IntKind.i64.wrap ((a1).tmod 8)))) (q := false) rfl (cT hw41) (fun hp43 => (cT (and_i hw41 (t_beq hp43)))) (fun hp43 => rfl)) (pickAnd (t24.2.2.1 != 0) (x8_36 != (IntKind.i64.wrap ((a1).tmod 8))))))) ?_
                refine OpsOk.cons rfl (.v (VOk.to (VOk.pickI (b := (((t24.2.1 == (t24.2.2.1 != 0)) && t24.2.1) || (decide (x8_36 > (IntKind.i64.wrap ((a1).tmod 8)))))) (p := true) (q := ((t24.2.2.1 != 0) && (x8_36 != (IntKind.i64.wrap ((a1).tmod 8))))) rfl rfl (fun hp44 => rfl) (fun hp44 => (cT (f_beq hp44)))) (pickOr (((t24.2.1 == (t24.2.2.1 != 0)) && t24.2.1) || (decide (x8_36 > (IntKind.i64.wrap ((a1).tmod 8))))) ((t24.2.2.1 != 0) && (x8_36 != (IntKind.i64.wrap ((a1).tmod 8)))))) rfl) ?_
                exact .done (.mk ⟨.same _, .same _, .same _, .same _, .same _, .same _, trivial⟩ ⟨.same _, trivial⟩)
              refine Ok.test (b := ((((t24.2.1 == (t24.2.2.1 != 0)) && t24.2.1) || (decide (x8_36 > (IntKind.i64.wrap ((a1).tmod 8))))) || ((t24.2.2.1 != 0) && (x8_36 != (IntKind.i64.wrap ((a1).tmod 8)))))) rfl (fun hb45 => ?_) (fun hb45 => ?_)
              · replace H := ifT H hb45
                refine Ok.seq ?_
                refine Ok.region (σ' := ⟨[(6, (.v (.bool false)))], []⟩) ?_ ?_
                · refine OpsOk.cons rfl (.v (VOk.asg (d := (.v (.bool false))) rfl rfl) rfl) ?_
                  exact .done (.mk ⟨.same _, trivial⟩ trivial)
                refine Ok.le (σ' := ⟨[(6, (.v (.bool false)))], []⟩) (.mk ⟨.same _, trivial⟩ trivial) ?_
                refine Ok.ret ?_
                obtain rfl := Option.some.inj H
                exact ⟨.inl rfl, ⟨_, (.cons (.tmp rfl) .nil), rfl⟩, trivial⟩
              · replace H := ifF H hb45
                refine Ok.le (σ' := ⟨[(1, (.v (.int .u8 a1))), (2, (L 2 e_watchbilllaw27_Step a2)), (7, (.bref 27 0)), (8, (.v (.int .i64 x8_36))), (9, (.v (.int .i64 x9_8)))], [(27, (.box .ex [(S t24.2.2.2.List_), (.v (.int .u32 t24.2.2.2.Next_)), (.v (.bool t24.2.2.2.Begun_)), (L 4 e_api_Row t24.2.2.2.Rows_)]))]⟩) (.mk ⟨.same _, .same _, .same _, .same _, .same _, trivial⟩ ⟨.same _, trivial⟩) ?_
                refine Ok.skip ?_
                refine Ok.region (σ' := ⟨[(1, (.v (.int .u8 a1))), (2, (L 2 e_watchbilllaw27_Step a2)), (7, (.bref 27 0)), (8, (.v (.int .i64 x8_36))), (9, (.v (.int .i64 (IntKind.i64.wrap (x9_8 + 1)))))], [(27, (.box .ex [(S t24.2.2.2.List_), (.v (.int .u32 t24.2.2.2.Next_)), (.v (.bool t24.2.2.2.Begun_)), (L 4 e_api_Row t24.2.2.2.Rows_)]))]⟩) ?_ ?_
                · refine OpsOk.cons rfl (.v (VOk.mv (d := (.v (.int .i64 x9_8))) rfl rfl) rfl) ?_
                  refine OpsOk.cons rfl (.v (VOk.arith (op := .add) (k := .i64) (a := x9_8) (b := 1) rfl rfl rfl rfl) rfl) ?_
                  refine OpsOk.cons rfl (.v (VOk.asg (d := (.v (.int .i64 (IntKind.i64.wrap (x9_8 + 1))))) rfl rfl) rfl) ?_
                  exact .done (.mk ⟨.same _, .same _, .same _, .same _, .same _, trivial⟩ ⟨.same _, trivial⟩)
                exact ⟨m19, Nat.lt_succ_self m19, t24.2.2.2.List_, t24.2.2.2.Next_, t24.2.2.2.Begun_, t24.2.2.2.Rows_, x8_36, (IntKind.i64.wrap (x9_8 + 1)), rfl, H⟩
        · replace H := ifF H hb48
          refine Ok.le (σ' := ⟨[], []⟩) (.mk trivial trivial) ?_
          refine Ok.exit ?_
          refine Ok.seq ?_
          refine Ok.region (σ' := ⟨[(6, (.v (.bool true)))], []⟩) ?_ ?_
          · refine OpsOk.cons rfl (.v (VOk.asg (d := (.v (.bool true))) rfl rfl) rfl) ?_
            exact .done (.mk ⟨.same _, trivial⟩ trivial)
          refine Ok.le (σ' := ⟨[(6, (.v (.bool true)))], []⟩) (.mk ⟨.same _, trivial⟩ trivial) ?_
          refine Ok.ret ?_
          obtain rfl := Option.some.inj H
          exact ⟨.inl rfl, ⟨_, (.cons (.tmp rfl) .nil), rfl⟩, trivial⟩

end Go.Proofs.Ytkmifmkdloeeeaa.Sh
