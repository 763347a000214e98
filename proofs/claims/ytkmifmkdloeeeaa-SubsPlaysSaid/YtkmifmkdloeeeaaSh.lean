import Derived.Test.YtkmifmkdloeeeaaProg
import Derived.Test.YtkmifmkdloeeeaaSha
namespace Go.Proofs.Ytkmifmkdloeeeaa.Sh
open Go Go.RowKit Go.Proofs.Vx
set_option linter.unusedVariables false

set_option maxRecDepth 100000
set_option maxHeartbeats 1000000
/-! watchbill/watchbilllaw27.SubsEnds: function 7 -/
def watchbilllaw27_SubsEnds.j1 (c0 : Str → Int → Bool → List T_api_Row → Int → Int → Option Bool) (a1 : Int) (a2 : List T_watchbilllaw27_Step) (x9_8 : Int) (t24 : T_api_Body × Bool × Int × T_subs_Sub) (x8_36 : Int) : Option Bool := (if ((((t24.2.1 == (t24.2.2.1 != 0)) && t24.2.1) || (decide (x8_36 > (IntKind.i64.wrap ((a1).tmod 8))))) || ((t24.2.2.1 != 0) && (x8_36 != (IntKind.i64.wrap ((a1).tmod 8))))) = true then some false else c0 t24.2.2.2.List_ t24.2.2.2.Next_ t24.2.2.2.Begun_ t24.2.2.2.Rows_ x8_36 (IntKind.i64.wrap (x9_8 + 1)))
def watchbilllaw27_SubsEnds.l0 (k : Nat) (a1 : Int) (a2 : List T_watchbilllaw27_Step) : Nat → Str → Int → Bool → List T_api_Row → Int → Int → Option Bool
  | 0, _, _, _, _, _, _ => none
  | m19 + 1, y27_0_9, y27_1_10, y27_2_11, y27_3_12, x8_7, x9_8 => (if (decide (x9_8 < (a2.length : Int))) = true then ((subs_Sub_Copy (T_subs_Sub.mk y27_0_9 y27_1_10 y27_2_11 y27_3_12)).bind fun (t20 : T_subs_Sub × T_subs_Sub) => (if (0 : Int) ≤ x9_8 ∧ x9_8 < (a2.length : Int) then (if (0 : Int) ≤ x9_8 ∧ x9_8 < (a2.length : Int) then ((subs_Sub_Next k t20.2 ((rd a2 x9_8).Rows) ((rd a2 x9_8).Full)).bind fun (t24 : T_api_Body × Bool × Int × T_subs_Sub) => (if (0 : Int) ≤ x9_8 ∧ x9_8 < (a2.length : Int) then (if (0 : Int) ≤ x9_8 ∧ x9_8 < (a2.length : Int) then ((subs_Sub_Next k t20.1 ((rd a2 x9_8).Rows) ((rd a2 x9_8).Full)).bind fun (t28 : T_api_Body × Bool × Int × T_subs_Sub) => ((watchbillref26_Same k t24.1 t28.1).bind fun (t30 : Bool) => (if (((!t30) || (!(t24.2.1 == t28.2.1))) || (t24.2.2.1 != t28.2.2.1)) = true then some false else (if t24.2.1 = true then watchbilllaw27_SubsEnds.j1 (watchbilllaw27_SubsEnds.l0 k a1 a2 m19) a1 a2 x9_8 t24 (IntKind.i64.wrap (x8_7 + 1)) else watchbilllaw27_SubsEnds.j1 (watchbilllaw27_SubsEnds.l0 k a1 a2 m19) a1 a2 x9_8 t24 x8_7)))) else none) else none)) else none) else none)) else some true)
def watchbilllaw27_SubsEnds (k : Nat) (a0 : Str) (a1 : Int) (a2 : List T_watchbilllaw27_Step) : Option Bool := ((watchbilllaw27_awake k).bind fun (t1 : Bool) => (if (!t1) = true then some false else ((watchbilllaw27_Few k a2).bind fun (t3 : Bool) => (if (!t3) = true then some true else ((subs_New a0 (IntKind.u32.wrap (4294967295 - (IntKind.u32.wrap ((a1).tmod 8))))).bind fun (t5 : T_subs_Sub) => watchbilllaw27_SubsEnds.l0 k a1 a2 k t5.List_ t5.Next_ t5.Begun_ t5.Rows_ 0 0)))))
theorem watchbilllaw27_SubsEnds.ok {k : Nat} {a0 : Str} {a1 : Int} {a2 : List T_watchbilllaw27_Step} {r : Bool} (H : watchbilllaw27_SubsEnds k a0 a1 a2 = some r) : Vx.Fn Try.prog 7 [(S a0), (.v (.int .u8 a1)), (L 2 e_watchbilllaw27_Step a2)] [] (.v (.bool r)) [] := by
  unfold watchbilllaw27_SubsEnds at H
  refine Vx.Fn.of_okR Try.func7 rfl (Nat.le_of_ble_eq_true rfl) ?_
  refine Ok.seq ?_
  refine Ok.region (σ' := ⟨[(0, (S a0)), (1, (.v (.int .u8 a1))), (2, (L 2 e_watchbilllaw27_Step a2))], []⟩) ?_ ?_
  · refine .cv (VOk.asg (d := (.v (.bool false))) rfl rfl) rfl rfl ?_
    exact .done (.rf rfl rfl)
  refine Ok.seq ?_
  refine Ok.seq ?_
  obtain ⟨t1, h2, H⟩ := bindE H
  refine Ok.region (σ' := ⟨[(0, (S a0)), (1, (.v (.int .u8 a1))), (2, (L 2 e_watchbilllaw27_Step a2)), (18, (.v (.bool (!t1))))], []⟩) ?_ ?_
  · refine .cg (GOk.call rfl rfl cl8 rfl (watchbilllaw27_awake.ok h2) rfl) rfl rfl ?_
    refine .cv (VOk.not (b := t1) rfl rfl) rfl rfl ?_
    exact .done (.rf rfl rfl)
  refine Ok.test (b := (!t1)) rfl (fun hb50 => ?_) (fun hb50 => ?_)
  · replace H := ifT H hb50
    refine Ok.seq ?_
    refine Ok.region (σ' := ⟨[(6, (.v (.bool false)))], []⟩) ?_ ?_
    · refine .cv (VOk.asg (d := (.v (.bool false))) rfl rfl) rfl rfl ?_
      exact .done (.rf rfl rfl)
    refine Ok.ret ?_
    obtain rfl := Option.some.inj H
    exact ⟨.inl rfl, ⟨_, (.cons (.tmp rfl) .nil), rfl⟩, trivial⟩
  · replace H := ifF H hb50
    refine Ok.skip ?_
    refine Ok.seq ?_
    refine Ok.seq ?_
    obtain ⟨t3, h4, H⟩ := bindE H
    refine Ok.region (σ' := ⟨[(0, (S a0)), (1, (.v (.int .u8 a1))), (2, (L 2 e_watchbilllaw27_Step a2)), (21, (.v (.bool (!t3))))], []⟩) ?_ ?_
    · refine .cv (VOk.mv (d := (L 2 e_watchbilllaw27_Step a2)) rfl rfl) rfl rfl ?_
      refine .cg (GOk.call rfl rfl cl9 rfl (watchbilllaw27_Few.ok h4) rfl) rfl rfl ?_
      refine .cv (VOk.not (b := t3) rfl rfl) rfl rfl ?_
      exact .done (.rf rfl rfl)
    refine Ok.test (b := (!t3)) rfl (fun hb49 => ?_) (fun hb49 => ?_)
    · replace H := ifT H hb49
      refine Ok.seq ?_
      refine Ok.region (σ' := ⟨[(6, (.v (.bool true)))], []⟩) ?_ ?_
      · refine .cv (VOk.asg (d := (.v (.bool true))) rfl rfl) rfl rfl ?_
        exact .done (.rf rfl rfl)
      refine Ok.ret ?_
      obtain rfl := Option.some.inj H
      exact ⟨.inl rfl, ⟨_, (.cons (.tmp rfl) .nil), rfl⟩, trivial⟩
    · replace H := ifF H hb49
      refine Ok.skip ?_
      refine Ok.seq ?_
      obtain ⟨t5, h6, H⟩ := bindE H
      refine Ok.region (σ' := ⟨[(1, (.v (.int .u8 a1))), (2, (L 2 e_watchbilllaw27_Step a2)), (7, (.bref 27 0))], [(27, (.box .ex (c_subs_Sub t5)))]⟩) ?_ ?_
      · refine .cv (VOk.mv (d := (S a0)) rfl rfl) rfl rfl ?_
        refine .cv (VOk.mv (d := (.v (.int .u8 a1))) rfl rfl) rfl rfl ?_
        refine .cv (VOk.rem (a := a1) (b := 8) rfl rfl rfl (by decide)) rfl rfl ?_
        refine .cv (VOk.convInt (a := ((a1).tmod 8)) rfl (by rw [Try.underlying5]; rfl) Try.underlying22 rfl) rfl rfl ?_
        refine .cv (VOk.arith (op := .sub) (k := .u32) (a := 4294967295) (b := (IntKind.u32.wrap ((a1).tmod 8))) rfl rfl rfl rfl) rfl rfl ?_
        refine OpsOk.cons rfl (OpOk.callP 27 1540 rfl rfl cl10 (subs_New.ok h6) rfl rfl rfl rfl) ?_
        refine .cv (VOk.asg (d := (.bref 27 0)) rfl rfl) rfl rfl ?_
        exact .done (.rf rfl rfl)
      refine Ok.seq ?_
      refine Ok.region (σ' := ⟨[(1, (.v (.int .u8 a1))), (2, (L 2 e_watchbilllaw27_Step a2)), (7, (.bref 27 0)), (8, (.v (.int .i64 0)))], [(27, (.box .ex (c_subs_Sub t5)))]⟩) ?_ ?_
      · refine .cv (VOk.asg (d := (.v (.int .i64 0))) rfl rfl) rfl rfl ?_
        exact .done (.rf rfl rfl)
      refine Ok.seq ?_
      refine Ok.seq ?_
      refine Ok.region (σ' := ⟨[(1, (.v (.int .u8 a1))), (2, (L 2 e_watchbilllaw27_Step a2)), (7, (.bref 27 0)), (8, (.v (.int .i64 0))), (9, (.v (.int .i64 0)))], [(27, (.box .ex (c_subs_Sub t5)))]⟩) ?_ ?_
      · refine .cv (VOk.asg (d := (.v (.int .i64 0))) rfl rfl) rfl rfl ?_
        exact .done (.rf rfl rfl)
      refine Ok.block ?_
      refine Ok.le (σ' := ⟨[(1, (.v (.int .u8 a1))), (2, (L 2 e_watchbilllaw27_Step a2)), (7, (.bref 27 0)), (8, (.v (.int .i64 0))), (9, (.v (.int .i64 0)))], [(27, (.box .ex (c_subs_Sub t5)))]⟩) (.rf rfl rfl) ?_
      refine Ok.loop (fun m19 σ => ∃ (y27_0_9 : Str) (y27_1_10 : Int) (y27_2_11 : Bool) (y27_3_12 : List T_api_Row) (x8_7 : Int) (x9_8 : Int), σ = ⟨[(1, (.v (.int .u8 a1))), (2, (L 2 e_watchbilllaw27_Step a2)), (7, (.bref 27 0)), (8, (.v (.int .i64 x8_7))), (9, (.v (.int .i64 x9_8)))], [(27, (.box .ex [(S y27_0_9), (.v (.int .u32 y27_1_10)), (.v (.bool y27_2_11)), (L 4 e_api_Row y27_3_12)]))]⟩ ∧ watchbilllaw27_SubsEnds.l0 k a1 a2 m19 y27_0_9 y27_1_10 y27_2_11 y27_3_12 x8_7 x9_8 = some r) k ⟨t5.List_, t5.Next_, t5.Begun_, t5.Rows_, 0, 0, rfl, H⟩ ?_
      rintro m19 σ ⟨y27_0_9, y27_1_10, y27_2_11, y27_3_12, x8_7, x9_8, rfl, H⟩
      cases m19 with
      | zero => exact absurd H (by simp [watchbilllaw27_SubsEnds.l0])
      | succ m19 =>
        unfold watchbilllaw27_SubsEnds.l0 at H
        refine Ok.seq ?_
        refine Ok.seq ?_
        refine Ok.region (σ' := ⟨[(1, (.v (.int .u8 a1))), (2, (L 2 e_watchbilllaw27_Step a2)), (7, (.bref 27 0)), (8, (.v (.int .i64 x8_7))), (9, (.v (.int .i64 x9_8))), (31, (.v (.bool (decide (x9_8 < (a2.length : Int))))))], [(27, (.box .ex [(S y27_0_9), (.v (.int .u32 y27_1_10)), (.v (.bool y27_2_11)), (L 4 e_api_Row y27_3_12)]))]⟩) ?_ ?_
        · refine .cv (VOk.mv (d := (.v (.int .i64 x9_8))) rfl rfl) rfl rfl ?_
          refine .cv (VOk.mv (d := (L 2 e_watchbilllaw27_Step a2)) rfl rfl) rfl rfl ?_
          refine .cv (VOk.lenL (e := e_watchbilllaw27_Step) (xs := a2) rfl Try.underlying23 rfl) rfl rfl ?_
          refine .cv (VOk.arith (op := .lss) (k := .i64) (a := x9_8) (b := (a2.length : Int)) rfl rfl rfl rfl) rfl rfl ?_
          exact .done (.rf rfl rfl)
        refine Ok.test (b := (decide (x9_8 < (a2.length : Int)))) rfl (fun hb48 => ?_) (fun hb48 => ?_)
        · replace H := ifT H hb48
          refine Ok.skip ?_
          refine Ok.seq ?_
          refine Ok.block ?_
          refine Ok.seq ?_
          obtain ⟨t20, h21, H⟩ := bindE H
          refine Ok.region (σ' := ⟨[(1, (.v (.int .u8 a1))), (2, (L 2 e_watchbilllaw27_Step a2)), (7, (.bref 27 0)), (8, (.v (.int .i64 x8_7))), (9, (.v (.int .i64 x9_8))), (10, (.bref 35 0))], [(27, (.box .ex (c_subs_Sub t20.2))), (35, (.box .ex (c_subs_Sub t20.1)))]⟩) ?_ ?_
          · refine .cv (VOk.mv (d := (.bref 27 0)) rfl rfl) rfl rfl ?_
            refine OpsOk.cons rfl (OpOk.callT (e := .ex) 27 1540 35 rfl rfl cl22 (fun b => ((subs_Sub_Copy.ok h21) b)) rfl rfl rfl rfl rfl rfl rfl rfl) ?_
            refine .cv (VOk.asg (d := (.bref 35 0)) rfl rfl) rfl rfl ?_
            exact .done (.rf rfl rfl)
          refine Ok.seq ?_
          obtain ⟨c22, H⟩ := assertE H
          obtain ⟨c23, H⟩ := assertE H
          obtain ⟨t24, h25, H⟩ := bindE H
          refine Ok.le (σ' := ⟨[(1, (.v (.int .u8 a1))), (2, (L 2 e_watchbilllaw27_Step a2)), (7, (.bref 27 0)), (8, (.v (.int .i64 x8_7))), (9, (.v (.int .i64 x9_8))), (10, (.bref 35 0))], [(27, (.box .ex (c_subs_Sub t20.2))), (35, (.box .ex (c_subs_Sub t20.1)))]⟩) (.rf rfl rfl) ?_
          refine Ok.drawE2 (σ' := ⟨[(1, (.v (.int .u8 a1))), (2, (L 2 e_watchbilllaw27_Step a2)), (7, (.bref 27 0)), (8, (.v (.int .i64 x8_7))), (9, (.v (.int .i64 x9_8))), (10, (.bref 35 0)), (11, (.bref 11 0)), (12, (.v (.bool t24.2.1))), (13, (.v (.int .i64 t24.2.2.1)))], [(11, (.box .ex (c_api_Body t24.1))), (27, (.box .ex (c_subs_Sub t24.2.2.2))), (35, (.box .ex (c_subs_Sub t20.1)))]⟩) [⟨true, [(7, (.bref 27 0))], [(27, (.box .ex (c_subs_Sub t20.2)))], (.bref 27 0), [], false, []⟩, ⟨true, [(2, (L 2 e_watchbilllaw27_Step a2))], [], (L 2 e_watchbilllaw27_Step a2), [], false, []⟩, ⟨true, [(9, (.v (.int .i64 x9_8)))], [], (.v (.int .i64 x9_8)), [], false, []⟩, ⟨true, [(38, (L 2 e_watchbilllaw27_Step a2)), (39, (.v (.int .i64 x9_8)))], [], (.fp (e_watchbilllaw27_Step (rd a2 x9_8)) 0), [], false, []⟩, ⟨true, [(40, (.fp (e_watchbilllaw27_Step (rd a2 x9_8)) 0))], [], (.fp (e_watchbilllaw27_Step (rd a2 x9_8)) 0), [], false, []⟩, ⟨true, [(41, (.fp (e_watchbilllaw27_Step (rd a2 x9_8)) 0))], [], (L 4 e_api_Row ((rd a2 x9_8).Rows)), [], false, []⟩, ⟨true, [(2, (L 2 e_watchbilllaw27_Step a2))], [], (L 2 e_watchbilllaw27_Step a2), [], false, []⟩, ⟨true, [(9, (.v (.int .i64 x9_8)))], [], (.v (.int .i64 x9_8)), [], false, []⟩, ⟨true, [(43, (L 2 e_watchbilllaw27_Step a2)), (44, (.v (.int .i64 x9_8)))], [], (.fp (e_watchbilllaw27_Step (rd a2 x9_8)) 0), [], false, []⟩, ⟨true, [(45, (.fp (e_watchbilllaw27_Step (rd a2 x9_8)) 0))], [], (.fp (e_watchbilllaw27_Step (rd a2 x9_8)) 1), [], false, []⟩, ⟨true, [(46, (.fp (e_watchbilllaw27_Step (rd a2 x9_8)) 1))], [], (.v (.bool ((rd a2 x9_8).Full))), [], false, []⟩, ⟨true, [(37, (.bref 27 0)), (42, (L 4 e_api_Row ((rd a2 x9_8).Rows))), (47, (.v (.bool ((rd a2 x9_8).Full))))], [(27, (.box .ex (c_subs_Sub t20.2)))], (.tup [(.agg (e_api_Body t24.1)), (.v (.bool t24.2.1)), (.v (.int .i64 t24.2.2.1))]), [(27, (.box .ex (c_subs_Sub t24.2.2.2)))], false, []⟩, ⟨true, [(48, (.tup [(.agg (e_api_Body t24.1)), (.v (.bool t24.2.1)), (.v (.int .i64 t24.2.2.1))]))], [], (.tup [(.agg (e_api_Body t24.1)), (.v (.bool t24.2.1)), (.v (.int .i64 t24.2.2.1))]), [], false, []⟩, ⟨true, [(36, (.tup [(.agg (e_api_Body t24.1)), (.v (.bool t24.2.1)), (.v (.int .i64 t24.2.2.1))]))], [], (.agg (e_api_Body t24.1)), [], false, []⟩, ⟨true, [(36, (.tup [(.agg (e_api_Body t24.1)), (.v (.bool t24.2.1)), (.v (.int .i64 t24.2.2.1))]))], [], (.v (.bool t24.2.1)), [], false, []⟩, ⟨true, [(36, (.tup [(.agg (e_api_Body t24.1)), (.v (.bool t24.2.1)), (.v (.int .i64 t24.2.2.1))]))], [], (.v (.int .i64 t24.2.2.1)), [], false, []⟩, ⟨true, [], [], (.bref 11 0), [(11, (.box .ex [(S ([] : Str)), (.v (.int .u32 0)), (.v (.bool false)), (L 4 e_api_Row ([] : List T_api_Row))]))], true, []⟩, ⟨true, [(11, (.bref 11 0)), (49, (.agg (e_api_Body t24.1)))], [(11, (.box .ex [(S ([] : Str)), (.v (.int .u32 0)), (.v (.bool false)), (L 4 e_api_Row ([] : List T_api_Row))]))], .junk, [(11, (.box .ex (c_api_Body t24.1)))], false, []⟩, ⟨true, [(50, (.v (.bool t24.2.1)))], [], (.v (.bool t24.2.1)), [], false, []⟩, ⟨true, [(51, (.v (.int .i64 t24.2.2.1)))], [], (.v (.int .i64 t24.2.2.1)), [], false, []⟩] [[], [], [], [1, 2], [3], [4], [], [], [6, 7], [8], [9], [0, 5, 10], [11], [12], [12], [12], [], [13, 16], [14], [15]] mixed (by kernel_rfl) ?_ ?_
          · refine TxtE2.cons ⟨.same _, trivial⟩ ⟨rfl, trivial⟩ (It2.val rfl rfl (fun T hT => (VOk.g (VOk.mv (d := (.bref 27 0)) rfl rfl)))) ?_
            refine TxtE2.cons ⟨.same _, trivial⟩ trivial (It2.val rfl rfl (fun T hT => (VOk.g (VOk.mv (d := (L 2 e_watchbilllaw27_Step a2)) rfl rfl)))) ?_
            refine TxtE2.cons ⟨.same _, trivial⟩ trivial (It2.val rfl rfl (fun T hT => (VOk.g (VOk.mv (d := (.v (.int .i64 x9_8))) rfl rfl)))) ?_
            refine TxtE2.cons ⟨.same _, .same _, trivial⟩ trivial (It2.val rfl rfl (fun T hT => (VOk.g (VOk.indexL (sz := 2) (e := e_watchbilllaw27_Step) (xs := a2) (i := x9_8) rfl Try.underlying23 sz32 rfl rfl c22)))) ?_
            refine TxtE2.cons ⟨.same _, trivial⟩ trivial (It2.val rfl rfl (fun T hT => (VOk.g (VOk.to (VOk.fieldFp rfl Try.underlying32 rfl sz28 rfl) rfl)))) ?_
            refine TxtE2.cons ⟨.same _, trivial⟩ trivial (It2.val rfl rfl (fun T hT => (VOk.g (VOk.loadFp (d := (L 4 e_api_Row ((rd a2 x9_8).Rows))) rfl Try.underlying28 rfl rfl rfl)))) ?_
            refine TxtE2.cons ⟨.same _, trivial⟩ trivial (It2.val rfl rfl (fun T hT => (VOk.g (VOk.mv (d := (L 2 e_watchbilllaw27_Step a2)) rfl rfl)))) ?_
            refine TxtE2.cons ⟨.same _, trivial⟩ trivial (It2.val rfl rfl (fun T hT => (VOk.g (VOk.mv (d := (.v (.int .i64 x9_8))) rfl rfl)))) ?_
            refine TxtE2.cons ⟨.same _, .same _, trivial⟩ trivial (It2.val rfl rfl (fun T hT => (VOk.g (VOk.indexL (sz := 2) (e := e_watchbilllaw27_Step) (xs := a2) (i := x9_8) rfl Try.underlying23 sz32 rfl rfl c23)))) ?_
            refine TxtE2.cons ⟨.same _, trivial⟩ trivial (It2.val rfl rfl (fun T hT => (VOk.g (VOk.to (VOk.fieldFp rfl Try.underlying32 rfl sz4 rfl) rfl)))) ?_
            refine TxtE2.cons ⟨.same _, trivial⟩ trivial (It2.val rfl rfl (fun T hT => (VOk.g (VOk.loadFp (d := (.v (.bool ((rd a2 x9_8).Full)))) rfl Try.underlying4 rfl rfl rfl)))) ?_
            refine TxtE2.cons ⟨.same _, .same _, .same _, trivial⟩ ⟨rfl, trivial⟩ (It2.callB (e := .ex) (ds0 := [(.bref 27 0), (L 4 e_api_Row ((rd a2 x9_8).Rows)), (.v (.bool ((rd a2 x9_8).Full)))]) 27 rfl rfl rfl cl11 (fun b => ((subs_Sub_Next.ok h25) b)) rfl rfl rfl rfl rfl rfl rfl rfl) ?_
            refine TxtE2.cons ⟨.same _, trivial⟩ trivial (It2.val rfl rfl (fun T hT => (VOk.g (VOk.mv (d := (.tup [(.agg (e_api_Body t24.1)), (.v (.bool t24.2.1)), (.v (.int .i64 t24.2.2.1))])) rfl rfl)))) ?_
            refine TxtE2.cons ⟨.same _, trivial⟩ trivial (It2.val rfl rfl (fun T hT => (VOk.g (VOk.extract (d := (.agg (e_api_Body t24.1))) rfl rfl rfl)))) ?_
            refine TxtE2.cons ⟨.same _, trivial⟩ trivial (It2.val rfl rfl (fun T hT => (VOk.g (VOk.extract (d := (.v (.bool t24.2.1))) rfl rfl rfl)))) ?_
            refine TxtE2.cons ⟨.same _, trivial⟩ trivial (It2.val rfl rfl (fun T hT => (VOk.g (VOk.extract (d := (.v (.int .i64 t24.2.2.1))) rfl rfl rfl)))) ?_
            refine TxtE2.cons trivial trivial (It2.alloc 11 [none, none, none, some 4] rfl rfl zo34 rfl rfl) ?_
            refine TxtE2.cons ⟨.same _, .same _, trivial⟩ ⟨rfl, trivial⟩ (It2.store rfl rfl sz34 rfl rfl rfl rfl rfl rfl rfl rfl) ?_
            refine TxtE2.cons ⟨.same _, trivial⟩ trivial (It2.val rfl rfl (fun T hT => (VOk.g (VOk.asg (d := (.v (.bool t24.2.1))) rfl rfl)))) ?_
            refine TxtE2.cons ⟨.same _, trivial⟩ trivial (It2.val rfl rfl (fun T hT => (VOk.g (VOk.asg (d := (.v (.int .i64 t24.2.2.1))) rfl rfl)))) ?_
            exact .done (.rf rfl rfl)
          refine Ok.seq ?_
          obtain ⟨c26, H⟩ := assertE H
          obtain ⟨c27, H⟩ := assertE H
          obtain ⟨t28, h29, H⟩ := bindE H
          refine Ok.le (σ' := ⟨[(1, (.v (.int .u8 a1))), (2, (L 2 e_watchbilllaw27_Step a2)), (7, (.bref 27 0)), (8, (.v (.int .i64 x8_7))), (9, (.v (.int .i64 x9_8))), (10, (.bref 35 0)), (11, (.bref 11 0)), (12, (.v (.bool t24.2.1))), (13, (.v (.int .i64 t24.2.2.1)))], [(11, (.box .ex (c_api_Body t24.1))), (27, (.box .ex (c_subs_Sub t24.2.2.2))), (35, (.box .ex (c_subs_Sub t20.1)))]⟩) (.rf rfl rfl) ?_
          refine Ok.drawE2 (σ' := ⟨[(1, (.v (.int .u8 a1))), (2, (L 2 e_watchbilllaw27_Step a2)), (7, (.bref 27 0)), (8, (.v (.int .i64 x8_7))), (9, (.v (.int .i64 x9_8))), (11, (.bref 11 0)), (12, (.v (.bool t24.2.1))), (13, (.v (.int .i64 t24.2.2.1))), (14, (.bref 14 0)), (15, (.v (.bool t28.2.1))), (16, (.v (.int .i64 t28.2.2.1)))], [(11, (.box .ex (c_api_Body t24.1))), (14, (.box .ex (c_api_Body t28.1))), (27, (.box .ex (c_subs_Sub t24.2.2.2)))]⟩) [⟨true, [(10, (.bref 35 0))], [(35, (.box .ex (c_subs_Sub t20.1)))], (.bref 35 0), [], false, []⟩, ⟨true, [(2, (L 2 e_watchbilllaw27_Step a2))], [], (L 2 e_watchbilllaw27_Step a2), [], false, []⟩, ⟨true, [(9, (.v (.int .i64 x9_8)))], [], (.v (.int .i64 x9_8)), [], false, []⟩, ⟨true, [(54, (L 2 e_watchbilllaw27_Step a2)), (55, (.v (.int .i64 x9_8)))], [], (.fp (e_watchbilllaw27_Step (rd a2 x9_8)) 0), [], false, []⟩, ⟨true, [(56, (.fp (e_watchbilllaw27_Step (rd a2 x9_8)) 0))], [], (.fp (e_watchbilllaw27_Step (rd a2 x9_8)) 0), [], false, []⟩, ⟨true, [(57, (.fp (e_watchbilllaw27_Step (rd a2 x9_8)) 0))], [], (L 4 e_api_Row ((rd a2 x9_8).Rows)), [], false, []⟩, ⟨true, [(2, (L 2 e_watchbilllaw27_Step a2))], [], (L 2 e_watchbilllaw27_Step a2), [], false, []⟩, ⟨true, [(9, (.v (.int .i64 x9_8)))], [], (.v (.int .i64 x9_8)), [], false, []⟩, ⟨true, [(59, (L 2 e_watchbilllaw27_Step a2)), (60, (.v (.int .i64 x9_8)))], [], (.fp (e_watchbilllaw27_Step (rd a2 x9_8)) 0), [], false, []⟩, ⟨true, [(61, (.fp (e_watchbilllaw27_Step (rd a2 x9_8)) 0))], [], (.fp (e_watchbilllaw27_Step (rd a2 x9_8)) 1), [], false, []⟩, ⟨true, [(62, (.fp (e_watchbilllaw27_Step (rd a2 x9_8)) 1))], [], (.v (.bool ((rd a2 x9_8).Full))), [], false, []⟩, ⟨true, [(53, (.bref 35 0)), (58, (L 4 e_api_Row ((rd a2 x9_8).Rows))), (63, (.v (.bool ((rd a2 x9_8).Full))))], [(35, (.box .ex (c_subs_Sub t20.1)))], (.tup [(.agg (e_api_Body t28.1)), (.v (.bool t28.2.1)), (.v (.int .i64 t28.2.2.1))]), [(35, (.box .ex (c_subs_Sub t28.2.2.2)))], false, []⟩, ⟨true, [(64, (.tup [(.agg (e_api_Body t28.1)), (.v (.bool t28.2.1)), (.v (.int .i64 t28.2.2.1))]))], [], (.tup [(.agg (e_api_Body t28.1)), (.v (.bool t28.2.1)), (.v (.int .i64 t28.2.2.1))]), [], false, []⟩, ⟨true, [(52, (.tup [(.agg (e_api_Body t28.1)), (.v (.bool t28.2.1)), (.v (.int .i64 t28.2.2.1))]))], [], (.agg (e_api_Body t28.1)), [], false, []⟩, ⟨true, [(52, (.tup [(.agg (e_api_Body t28.1)), (.v (.bool t28.2.1)), (.v (.int .i64 t28.2.2.1))]))], [], (.v (.bool t28.2.1)), [], false, []⟩, ⟨true, [(52, (.tup [(.agg (e_api_Body t28.1)), (.v (.bool t28.2.1)), (.v (.int .i64 t28.2.2.1))]))], [], (.v (.int .i64 t28.2.2.1)), [], false, []⟩, ⟨true, [], [], (.bref 14 0), [(14, (.box .ex [(S ([] : Str)), (.v (.int .u32 0)), (.v (.bool false)), (L 4 e_api_Row ([] : List T_api_Row))]))], true, []⟩, ⟨true, [(14, (.bref 14 0)), (65, (.agg (e_api_Body t28.1)))], [(14, (.box .ex [(S ([] : Str)), (.v (.int .u32 0)), (.v (.bool false)), (L 4 e_api_Row ([] : List T_api_Row))]))], .junk, [(14, (.box .ex (c_api_Body t28.1)))], false, []⟩, ⟨true, [(66, (.v (.bool t28.2.1)))], [], (.v (.bool t28.2.1)), [], false, []⟩, ⟨true, [(67, (.v (.int .i64 t28.2.2.1)))], [], (.v (.int .i64 t28.2.2.1)), [], false, []⟩] [[], [], [], [1, 2], [3], [4], [], [], [6, 7], [8], [9], [0, 5, 10], [11], [12], [12], [12], [], [13, 16], [14], [15]] mixed (by kernel_rfl) ?_ ?_
          · refine TxtE2.cons ⟨.same _, trivial⟩ ⟨rfl, trivial⟩ (It2.val rfl rfl (fun T hT => (VOk.g (VOk.mv (d := (.bref 35 0)) rfl rfl)))) ?_
            refine TxtE2.cons ⟨.same _, trivial⟩ trivial (It2.val rfl rfl (fun T hT => (VOk.g (VOk.mv (d := (L 2 e_watchbilllaw27_Step a2)) rfl rfl)))) ?_
            refine TxtE2.cons ⟨.same _, trivial⟩ trivial (It2.val rfl rfl (fun T hT => (VOk.g (VOk.mv (d := (.v (.int .i64 x9_8))) rfl rfl)))) ?_
            refine TxtE2.cons ⟨.same _, .same _, trivial⟩ trivial (It2.val rfl rfl (fun T hT => (VOk.g (VOk.indexL (sz := 2) (e := e_watchbilllaw27_Step) (xs := a2) (i := x9_8) rfl Try.underlying23 sz32 rfl rfl c26)))) ?_
            refine TxtE2.cons ⟨.same _, trivial⟩ trivial (It2.val rfl rfl (fun T hT => (VOk.g (VOk.to (VOk.fieldFp rfl Try.underlying32 rfl sz28 rfl) rfl)))) ?_
            refine TxtE2.cons ⟨.same _, trivial⟩ trivial (It2.val rfl rfl (fun T hT => (VOk.g (VOk.loadFp (d := (L 4 e_api_Row ((rd a2 x9_8).Rows))) rfl Try.underlying28 rfl rfl rfl)))) ?_
            refine TxtE2.cons ⟨.same _, trivial⟩ trivial (It2.val rfl rfl (fun T hT => (VOk.g (VOk.mv (d := (L 2 e_watchbilllaw27_Step a2)) rfl rfl)))) ?_
            refine TxtE2.cons ⟨.same _, trivial⟩ trivial (It2.val rfl rfl (fun T hT => (VOk.g (VOk.mv (d := (.v (.int .i64 x9_8))) rfl rfl)))) ?_
            refine TxtE2.cons ⟨.same _, .same _, trivial⟩ trivial (It2.val rfl rfl (fun T hT => (VOk.g (VOk.indexL (sz := 2) (e := e_watchbilllaw27_Step) (xs := a2) (i := x9_8) rfl Try.underlying23 sz32 rfl rfl c27)))) ?_
            refine TxtE2.cons ⟨.same _, trivial⟩ trivial (It2.val rfl rfl (fun T hT => (VOk.g (VOk.to (VOk.fieldFp rfl Try.underlying32 rfl sz4 rfl) rfl)))) ?_
            refine TxtE2.cons ⟨.same _, trivial⟩ trivial (It2.val rfl rfl (fun T hT => (VOk.g (VOk.loadFp (d := (.v (.bool ((rd a2 x9_8).Full)))) rfl Try.underlying4 rfl rfl rfl)))) ?_
            refine TxtE2.cons ⟨.same _, .same _, .same _, trivial⟩ ⟨rfl, trivial⟩ (It2.callB (e := .ex) (ds0 := [(.bref 35 0), (L 4 e_api_Row ((rd a2 x9_8).Rows)), (.v (.bool ((rd a2 x9_8).Full)))]) 35 rfl rfl rfl cl11 (fun b => ((subs_Sub_Next.ok h29) b)) rfl rfl rfl rfl rfl rfl rfl rfl) ?_
            refine TxtE2.cons ⟨.same _, trivial⟩ trivial (It2.val rfl rfl (fun T hT => (VOk.g (VOk.mv (d := (.tup [(.agg (e_api_Body t28.1)), (.v (.bool t28.2.1)), (.v (.int .i64 t28.2.2.1))])) rfl rfl)))) ?_
            refine TxtE2.cons ⟨.same _, trivial⟩ trivial (It2.val rfl rfl (fun T hT => (VOk.g (VOk.extract (d := (.agg (e_api_Body t28.1))) rfl rfl rfl)))) ?_
            refine TxtE2.cons ⟨.same _, trivial⟩ trivial (It2.val rfl rfl (fun T hT => (VOk.g (VOk.extract (d := (.v (.bool t28.2.1))) rfl rfl rfl)))) ?_
            refine TxtE2.cons ⟨.same _, trivial⟩ trivial (It2.val rfl rfl (fun T hT => (VOk.g (VOk.extract (d := (.v (.int .i64 t28.2.2.1))) rfl rfl rfl)))) ?_
            refine TxtE2.cons trivial trivial (It2.alloc 14 [none, none, none, some 4] rfl rfl zo34 rfl rfl) ?_
            refine TxtE2.cons ⟨.same _, .same _, trivial⟩ ⟨rfl, trivial⟩ (It2.store rfl rfl sz34 rfl rfl rfl rfl rfl rfl rfl rfl) ?_
            refine TxtE2.cons ⟨.same _, trivial⟩ trivial (It2.val rfl rfl (fun T hT => (VOk.g (VOk.asg (d := (.v (.bool t28.2.1))) rfl rfl)))) ?_
            refine TxtE2.cons ⟨.same _, trivial⟩ trivial (It2.val rfl rfl (fun T hT => (VOk.g (VOk.asg (d := (.v (.int .i64 t28.2.2.1))) rfl rfl)))) ?_
            exact .done (.rf rfl rfl)
          refine Ok.seq ?_
          refine Ok.seq ?_
          obtain ⟨t30, h31, H⟩ := bindE H
          refine Ok.region (σ' := ⟨[(1, (.v (.int .u8 a1))), (2, (L 2 e_watchbilllaw27_Step a2)), (7, (.bref 27 0)), (8, (.v (.int .i64 x8_7))), (9, (.v (.int .i64 x9_8))), (12, (.v (.bool t24.2.1))), (13, (.v (.int .i64 t24.2.2.1))), (81, (.v (.bool (((!t30) || (!(t24.2.1 == t28.2.1))) || (t24.2.2.1 != t28.2.2.1)))))], [(27, (.box .ex (c_subs_Sub t24.2.2.2)))]⟩) ?_ ?_
          · refine .cv (VOk.to (d' := (.agg (e_api_Body t24.1))) (.loadBAgg rfl Try.underlying34 rfl sz34 rfl rfl rfl) rfl) rfl rfl ?_
            refine .cv (VOk.to (d' := (.agg (e_api_Body t28.1))) (.loadBAgg rfl Try.underlying34 rfl sz34 rfl rfl rfl) rfl) rfl rfl ?_
            refine .cg (GOk.call rfl rfl cl13 rfl (watchbillref26_Same.ok h31) rfl) rfl rfl ?_
            refine .cv (VOk.not (b := t30) rfl rfl) rfl rfl ?_
            refine .cv (VOk.mv (d := (.v (.bool (!t30)))) rfl rfl) rfl rfl ?_
            refine OpsOk.consI rfl rfl rfl (.one rfl) rfl (fun hw32 => (VOk.g (VOk.mv (d := (.v (.bool t24.2.1))) rfl rfl))) ?_
            refine OpsOk.consI rfl rfl rfl (.one rfl) rfl (fun hw32 => (VOk.g (VOk.mv (d := (.v (.bool t28.2.1))) rfl rfl))) ?_
            refine OpsOk.consI rfl rfl rfl (.one rfl) rfl (fun hw32 => (GOk.fr (fr' := [(73, (.v (.bool t24.2.1))), (74, (.v (.bool t28.2.1)))]) ⟨DLe.of_eq (cT hw32).symm, DLe.of_eq (cT hw32).symm, trivial⟩ (VOk.g (VOk.eqB (op := .neq) (p := t24.2.1) (q := t28.2.1) rfl (.inr rfl) Try.underlying4 rfl rfl)))) ?_
            refine .cv (VOk.to (VOk.pickI (b := (!t30)) (p := true) (q := (!(t24.2.1 == t28.2.1))) rfl rfl (fun hp33 => rfl) (fun hp33 => (cT (f_beq hp33)))) (pickOr (!t30) (!(t24.2.1 == t28.2.1)))) rfl rfl ?_
            refine .cv (VOk.mv (d := (.v (.bool ((!t30) || (!(t24.2.1 == t28.2.1)))))) rfl rfl) rfl rfl ?_
            refine OpsOk.consI rfl rfl rfl (.one rfl) rfl (fun hw34 => (VOk.g (VOk.mv (d := (.v (.int .i64 t24.2.2.1))) rfl rfl))) ?_
            refine OpsOk.consI rfl rfl rfl (.one rfl) rfl (fun hw34 => (VOk.g (VOk.mv (d := (.v (.int .i64 t28.2.2.1))) rfl rfl))) ?_
            refine OpsOk.consI rfl rfl rfl (.one rfl) rfl (fun hw34 => (GOk.fr (fr' := [(78, (.v (.int .i64 t24.2.2.1))), (79, (.v (.int .i64 t28.2.2.1)))]) ⟨DLe.of_eq (cT hw34).symm, DLe.of_eq (cT hw34).symm, trivial⟩ (VOk.g (VOk.arith (op := .neq) (k := .i64) (a := t24.2.2.1) (b := t28.2.2.1) rfl rfl rfl rfl)))) ?_
            refine .cv (VOk.to (VOk.pickI (b := ((!t30) || (!(t24.2.1 == t28.2.1)))) (p := true) (q := (t24.2.2.1 != t28.2.2.1)) rfl rfl (fun hp35 => rfl) (fun hp35 => (cT (f_beq hp35)))) (pickOr ((!t30) || (!(t24.2.1 == t28.2.1))) (t24.2.2.1 != t28.2.2.1))) rfl rfl ?_
            exact .done (.rf rfl rfl)
          refine Ok.test (b := (((!t30) || (!(t24.2.1 == t28.2.1))) || (t24.2.2.1 != t28.2.2.1))) rfl (fun hb47 => ?_) (fun hb47 => ?_)
          · replace H := ifT H hb47
            refine Ok.seq ?_
            refine Ok.region (σ' := ⟨[(6, (.v (.bool false)))], []⟩) ?_ ?_
            · refine .cv (VOk.asg (d := (.v (.bool false))) rfl rfl) rfl rfl ?_
              exact .done (.rf rfl rfl)
            refine Ok.ret ?_
            obtain rfl := Option.some.inj H
            exact ⟨.inl rfl, ⟨_, (.cons (.tmp rfl) .nil), rfl⟩, trivial⟩
          · replace H := ifF H hb47
            refine Ok.skip ?_
            refine Ok.meet (fun σ => ∃ (x8_36 : Int), σ = ⟨[(1, (.v (.int .u8 a1))), (2, (L 2 e_watchbilllaw27_Step a2)), (7, (.bref 27 0)), (8, (.v (.int .i64 x8_36))), (9, (.v (.int .i64 x9_8))), (12, (.v (.bool t24.2.1))), (13, (.v (.int .i64 t24.2.2.1)))], [(27, (.box .ex (c_subs_Sub t24.2.2.2)))]⟩ ∧ watchbilllaw27_SubsEnds.j1 (watchbilllaw27_SubsEnds.l0 k a1 a2 m19) a1 a2 x9_8 t24 x8_36 = some r) ?_ ?_
            · refine Ok.seq ?_
              refine Ok.region (σ' := ⟨[(1, (.v (.int .u8 a1))), (2, (L 2 e_watchbilllaw27_Step a2)), (7, (.bref 27 0)), (8, (.v (.int .i64 x8_7))), (9, (.v (.int .i64 x9_8))), (12, (.v (.bool t24.2.1))), (13, (.v (.int .i64 t24.2.2.1))), (82, (.v (.bool t24.2.1)))], [(27, (.box .ex (c_subs_Sub t24.2.2.2)))]⟩) ?_ ?_
              · refine .cv (VOk.mv (d := (.v (.bool t24.2.1))) rfl rfl) rfl rfl ?_
                exact .done (.rf rfl rfl)
              refine Ok.test (b := t24.2.1) rfl (fun hb46 => ?_) (fun hb46 => ?_)
              · replace H := ifT H hb46
                refine Ok.region (σ' := ⟨[(1, (.v (.int .u8 a1))), (2, (L 2 e_watchbilllaw27_Step a2)), (7, (.bref 27 0)), (8, (.v (.int .i64 (IntKind.i64.wrap (x8_7 + 1))))), (9, (.v (.int .i64 x9_8))), (12, (.v (.bool t24.2.1))), (13, (.v (.int .i64 t24.2.2.1)))], [(27, (.box .ex (c_subs_Sub t24.2.2.2)))]⟩) ?_ ?_
                · refine .cv (VOk.mv (d := (.v (.int .i64 x8_7))) rfl rfl) rfl rfl ?_
                  refine .cv (VOk.arith (op := .add) (k := .i64) (a := x8_7) (b := 1) rfl rfl rfl rfl) rfl rfl ?_
                  refine .cv (VOk.asg (d := (.v (.int .i64 (IntKind.i64.wrap (x8_7 + 1))))) rfl rfl) rfl rfl ?_
                  exact .done (.rf rfl rfl)
                exact ⟨(IntKind.i64.wrap (x8_7 + 1)), rfl, H⟩
              · replace H := ifF H hb46
                refine Ok.le (σ' := ⟨[(1, (.v (.int .u8 a1))), (2, (L 2 e_watchbilllaw27_Step a2)), (7, (.bref 27 0)), (8, (.v (.int .i64 x8_7))), (9, (.v (.int .i64 x9_8))), (12, (.v (.bool t24.2.1))), (13, (.v (.int .i64 t24.2.2.1)))], [(27, (.box .ex (c_subs_Sub t24.2.2.2)))]⟩) (.rf rfl rfl) ?_
                refine Ok.skip ?_
                exact ⟨x8_7, rfl, H⟩
            · rintro σ ⟨x8_36, rfl, H⟩
              unfold watchbilllaw27_SubsEnds.j1 at H
              refine Ok.seq ?_
              refine Ok.region (σ' := ⟨[(1, (.v (.int .u8 a1))), (2, (L 2 e_watchbilllaw27_Step a2)), (7, (.bref 27 0)), (8, (.v (.int .i64 x8_36))), (9, (.v (.int .i64 x9_8))), (109, (.v (.bool ((((t24.2.1 == (t24.2.2.1 != 0)) && t24.2.1) || (decide (x8_36 > (IntKind.i64.wrap ((a1).tmod 8))))) || ((t24.2.2.1 != 0) && (x8_36 != (IntKind.i64.wrap ((a1).tmod 8))))))))], [(27, (.box .ex (c_subs_Sub t24.2.2.2)))]⟩) ?_ ?_
              · refine .cv (VOk.mv (d := (.v (.bool t24.2.1))) rfl rfl) rfl rfl ?_
                refine .cv (VOk.mv (d := (.v (.int .i64 t24.2.2.1))) rfl rfl) rfl rfl ?_
                refine .cv (VOk.arith (op := .neq) (k := .i64) (a := t24.2.2.1) (b := 0) rfl rfl rfl rfl) rfl rfl ?_
                refine .cv (VOk.eqB (op := .eql) (p := t24.2.1) (q := (t24.2.2.1 != 0)) rfl (.inl rfl) Try.underlying4 rfl rfl) rfl rfl ?_
                refine .cv (VOk.mv (d := (.v (.bool (t24.2.1 == (t24.2.2.1 != 0))))) rfl rfl) rfl rfl ?_
                refine OpsOk.consI rfl rfl rfl (.one rfl) rfl (fun hw37 => (VOk.g (VOk.mv (d := (.v (.bool t24.2.1))) rfl rfl))) ?_
                refine .cv (VOk.to (VOk.pickI (b := (t24.2.1 == (t24.2.2.1 != 0))) (p := t24.2.1) (q := false) rfl rfl (fun hp38 => (cT (t_beq hp38))) (fun hp38 => rfl)) (pickAnd (t24.2.1 == (t24.2.2.1 != 0)) t24.2.1)) rfl rfl ?_
                refine .cv (VOk.mv (d := (.v (.bool ((t24.2.1 == (t24.2.2.1 != 0)) && t24.2.1)))) rfl rfl) rfl rfl ?_
                refine OpsOk.consI rfl rfl rfl (.one rfl) rfl (fun hw39 => (VOk.g (VOk.mv (d := (.v (.int .i64 x8_36))) rfl rfl))) ?_
                refine OpsOk.consI rfl rfl rfl (.one rfl) rfl (fun hw39 => (VOk.g (VOk.mv (d := (.v (.int .u8 a1))) rfl rfl))) ?_
                refine OpsOk.consI rfl rfl rfl (.one rfl) rfl (fun hw39 => (GOk.fr (fr' := [(94, (.v (.int .u8 a1)))]) ⟨DLe.of_eq (cT hw39).symm, trivial⟩ (VOk.g (VOk.rem (a := a1) (b := 8) rfl rfl rfl (by decide))))) ?_
                refine OpsOk.consI rfl rfl rfl (.one rfl) rfl (fun hw39 => (GOk.fr (fr' := [(95, (.v (.int .u8 ((a1).tmod 8))))]) ⟨DLe.of_eq (cT hw39).symm, trivial⟩ (VOk.g (VOk.convInt (a := ((a1).tmod 8)) rfl (by rw [Try.underlying5]; rfl) Try.underlying3 rfl)))) ?_
                refine OpsOk.consI rfl rfl rfl (.one rfl) rfl (fun hw39 => (GOk.fr (fr' := [(93, (.v (.int .i64 x8_36))), (96, (.v (.int .i64 (IntKind.i64.wrap ((a1).tmod 8)))))]) ⟨DLe.of_eq (cT hw39).symm, DLe.of_eq (cT hw39).symm, trivial⟩ (VOk.g (VOk.arith (op := .gtr) (k := .i64) (a := x8_36) (b := (IntKind.i64.wrap ((a1).tmod 8))) rfl rfl rfl rfl)))) ?_
                refine .cv (VOk.to (VOk.pickI (b := ((t24.2.1 == (t24.2.2.1 != 0)) && t24.2.1)) (p := true) (q := (decide (x8_36 > (IntKind.i64.wrap ((a1).tmod 8))))) rfl rfl (fun hp40 => rfl) (fun hp40 => (cT (f_beq hp40)))) (pickOr ((t24.2.1 == (t24.2.2.1 != 0)) && t24.2.1) (decide (x8_36 > (IntKind.i64.wrap ((a1).tmod 8)))))) rfl rfl ?_
                refine .cv (VOk.mv (d := (.v (.bool (((t24.2.1 == (t24.2.2.1 != 0)) && t24.2.1) || (decide (x8_36 > (IntKind.i64.wrap ((a1).tmod 8)))))))) rfl rfl) rfl rfl ?_
                refine OpsOk.consI rfl rfl rfl (.one rfl) rfl (fun hw41 => (VOk.g (VOk.mv (d := (.v (.int .i64 t24.2.2.1))) rfl rfl))) ?_
                refine OpsOk.consI rfl rfl rfl (.one rfl) rfl (fun hw41 => (GOk.fr (fr' := [(100, (.v (.int .i64 t24.2.2.1)))]) ⟨DLe.of_eq (cT hw41).symm, trivial⟩ (VOk.g (VOk.arith (op := .neq) (k := .i64) (a := t24.2.2.1) (b := 0) rfl rfl rfl rfl)))) ?_
                refine OpsOk.consI rfl rfl rfl (.one rfl) rfl (fun hw41 => (GOk.fr (fr' := [(101, (.v (.bool (t24.2.2.1 != 0))))]) ⟨DLe.of_eq (cT hw41).symm, trivial⟩ (VOk.g (VOk.mv (d := (.v (.bool (t24.2.2.1 != 0)))) rfl rfl)))) ?_
                refine OpsOk.consI rfl rfl rfl (.two rfl) rfl (fun hw42 => (VOk.g (VOk.mv (d := (.v (.int .i64 x8_36))) rfl rfl))) ?_
                refine OpsOk.consI rfl rfl rfl (.two rfl) rfl (fun hw42 => (VOk.g (VOk.mv (d := (.v (.int .u8 a1))) rfl rfl))) ?_
                refine OpsOk.consI rfl rfl rfl (.two rfl) rfl (fun hw42 => (GOk.fr (fr' := [(104, (.v (.int .u8 a1)))]) ⟨DLe.of_eq (cT hw42).symm, trivial⟩ (VOk.g (VOk.rem (a := a1) (b := 8) rfl rfl rfl (by decide))))) ?_
                refine OpsOk.consI rfl rfl rfl (.two rfl) rfl (fun hw42 => (GOk.fr (fr' := [(105, (.v (.int .u8 ((a1).tmod 8))))]) ⟨DLe.of_eq (cT hw42).symm, trivial⟩ (VOk.g (VOk.convInt (a := ((a1).tmod 8)) rfl (by rw [Try.underlying5]; rfl) Try.underlying3 rfl)))) ?_
                refine OpsOk.consI rfl rfl rfl (.two rfl) rfl (fun hw42 => (GOk.fr (fr' := [(103, (.v (.int .i64 x8_36))), (106, (.v (.int .i64 (IntKind.i64.wrap ((a1).tmod 8)))))]) ⟨DLe.of_eq (cT hw42).symm, DLe.of_eq (cT hw42).symm, trivial⟩ (VOk.g (VOk.arith (op := .neq) (k := .i64) (a := x8_36) (b := (IntKind.i64.wrap ((a1).tmod 8))) rfl rfl rfl rfl)))) ?_
                refine OpsOk.consI rfl rfl rfl (.one rfl) rfl (fun hw41 => (VOk.g (VOk.to (VOk.pickI (b := (t24.2.2.1 != 0)) (p := (x8_36 != (IntKind.i64.wrap ((a1).tmod 8)))) (q := false) rfl (cT hw41) (fun hp43 => (cT (and_i hw41 (t_beq hp43)))) (fun hp43 => rfl)) (pickAnd (t24.2.2.1 != 0) (x8_36 != (IntKind.i64.wrap ((a1).tmod 8))))))) ?_
                refine .cv (VOk.to (VOk.pickI (b := (((t24.2.1 == (t24.2.2.1 != 0)) && t24.2.1) || (decide (x8_36 > (IntKind.i64.wrap ((a1).tmod 8)))))) (p := true) (q := ((t24.2.2.1 != 0) && (x8_36 != (IntKind.i64.wrap ((a1).tmod 8))))) rfl rfl (fun hp44 => rfl) (fun hp44 => (cT (f_beq hp44)))) (pickOr (((t24.2.1 == (t24.2.2.1 != 0)) && t24.2.1) || (decide (x8_36 > (IntKind.i64.wrap ((a1).tmod 8))))) ((t24.2.2.1 != 0) && (x8_36 != (IntKind.i64.wrap ((a1).tmod 8)))))) rfl rfl ?_
                exact .done (.rf rfl rfl)
              refine Ok.test (b := ((((t24.2.1 == (t24.2.2.1 != 0)) && t24.2.1) || (decide (x8_36 > (IntKind.i64.wrap ((a1).tmod 8))))) || ((t24.2.2.1 != 0) && (x8_36 != (IntKind.i64.wrap ((a1).tmod 8)))))) rfl (fun hb45 => ?_) (fun hb45 => ?_)
              · replace H := ifT H hb45
                refine Ok.seq ?_
                refine Ok.region (σ' := ⟨[(6, (.v (.bool false)))], []⟩) ?_ ?_
                · refine .cv (VOk.asg (d := (.v (.bool false))) rfl rfl) rfl rfl ?_
                  exact .done (.rf rfl rfl)
                refine Ok.ret ?_
                obtain rfl := Option.some.inj H
                exact ⟨.inl rfl, ⟨_, (.cons (.tmp rfl) .nil), rfl⟩, trivial⟩
              · replace H := ifF H hb45
                refine Ok.skip ?_
                refine Ok.region (σ' := ⟨[(1, (.v (.int .u8 a1))), (2, (L 2 e_watchbilllaw27_Step a2)), (7, (.bref 27 0)), (8, (.v (.int .i64 x8_36))), (9, (.v (.int .i64 (IntKind.i64.wrap (x9_8 + 1)))))], [(27, (.box .ex (c_subs_Sub t24.2.2.2)))]⟩) ?_ ?_
                · refine .cv (VOk.mv (d := (.v (.int .i64 x9_8))) rfl rfl) rfl rfl ?_
                  refine .cv (VOk.arith (op := .add) (k := .i64) (a := x9_8) (b := 1) rfl rfl rfl rfl) rfl rfl ?_
                  refine .cv (VOk.asg (d := (.v (.int .i64 (IntKind.i64.wrap (x9_8 + 1))))) rfl rfl) rfl rfl ?_
                  exact .done (.rf rfl rfl)
                exact ⟨m19, Nat.lt_succ_self m19, t24.2.2.2.List_, t24.2.2.2.Next_, t24.2.2.2.Begun_, t24.2.2.2.Rows_, x8_36, (IntKind.i64.wrap (x9_8 + 1)), rfl, H⟩
        · replace H := ifF H hb48
          refine Ok.exit ?_
          refine Ok.seq ?_
          refine Ok.region (σ' := ⟨[(6, (.v (.bool true)))], []⟩) ?_ ?_
          · refine .cv (VOk.asg (d := (.v (.bool true))) rfl rfl) rfl rfl ?_
            exact .done (.rf rfl rfl)
          refine Ok.ret ?_
          obtain rfl := Option.some.inj H
          exact ⟨.inl rfl, ⟨_, (.cons (.tmp rfl) .nil), rfl⟩, trivial⟩

/-! watchbill/watchbillref27.goes: function 27 -/
def watchbillref27_goes.l0 (k : Nat) (a0 : List T_api_Row) (a1 : List T_api_Row) : Nat → Int → Option Bool
  | 0, _ => none
  | m3 + 1, x5_1 => (if (decide (x5_1 < (a0.length : Int))) = true then (if (0 : Int) ≤ x5_1 ∧ x5_1 < (a0.length : Int) then (if (0 : Int) ≤ x5_1 ∧ x5_1 < (a1.length : Int) then (if (!(((rd a0 x5_1).URI) == ((rd a1 x5_1).URI))) = true then some false else watchbillref27_goes.l0 k a0 a1 m3 (IntKind.i64.wrap (x5_1 + 1))) else none) else none) else some true)
def watchbillref27_goes (k : Nat) (a0 : List T_api_Row) (a1 : List T_api_Row) : Option Bool := (if (decide ((a0.length : Int) > (a1.length : Int))) = true then some false else watchbillref27_goes.l0 k a0 a1 k 0)
theorem watchbillref27_goes.ok {k : Nat} {a0 : List T_api_Row} {a1 : List T_api_Row} {r : Bool} (H : watchbillref27_goes k a0 a1 = some r) : Vx.Fn Try.prog 27 [(L 4 e_api_Row a0), (L 4 e_api_Row a1)] [] (.v (.bool r)) [] := by
  unfold watchbillref27_goes at H
  refine Vx.Fn.of_okR Try.func27 rfl (Nat.le_of_ble_eq_true rfl) ?_
  refine Ok.seq ?_
  refine Ok.region (σ' := ⟨[(0, (L 4 e_api_Row a0)), (1, (L 4 e_api_Row a1))], []⟩) ?_ ?_
  · refine .cv (VOk.asg (d := (.v (.bool false))) rfl rfl) rfl rfl ?_
    exact .done (.rf rfl rfl)
  refine Ok.seq ?_
  refine Ok.seq ?_
  refine Ok.region (σ' := ⟨[(0, (L 4 e_api_Row a0)), (1, (L 4 e_api_Row a1)), (10, (.v (.bool (decide ((a0.length : Int) > (a1.length : Int))))))], []⟩) ?_ ?_
  · refine .cv (VOk.mv (d := (L 4 e_api_Row a0)) rfl rfl) rfl rfl ?_
    refine .cv (VOk.lenL (e := e_api_Row) (xs := a0) rfl Try.underlying28 rfl) rfl rfl ?_
    refine .cv (VOk.mv (d := (L 4 e_api_Row a1)) rfl rfl) rfl rfl ?_
    refine .cv (VOk.lenL (e := e_api_Row) (xs := a1) rfl Try.underlying28 rfl) rfl rfl ?_
    refine .cv (VOk.arith (op := .gtr) (k := .i64) (a := (a0.length : Int)) (b := (a1.length : Int)) rfl rfl rfl rfl) rfl rfl ?_
    exact .done (.rf rfl rfl)
  refine Ok.test (b := (decide ((a0.length : Int) > (a1.length : Int)))) rfl (fun hb8 => ?_) (fun hb8 => ?_)
  · replace H := ifT H hb8
    refine Ok.seq ?_
    refine Ok.region (σ' := ⟨[(4, (.v (.bool false)))], []⟩) ?_ ?_
    · refine .cv (VOk.asg (d := (.v (.bool false))) rfl rfl) rfl rfl ?_
      exact .done (.rf rfl rfl)
    refine Ok.ret ?_
    obtain rfl := Option.some.inj H
    exact ⟨.inl rfl, ⟨_, (.cons (.tmp rfl) .nil), rfl⟩, trivial⟩
  · replace H := ifF H hb8
    refine Ok.skip ?_
    refine Ok.seq ?_
    refine Ok.seq ?_
    refine Ok.region (σ' := ⟨[(0, (L 4 e_api_Row a0)), (1, (L 4 e_api_Row a1)), (5, (.v (.int .i64 0)))], []⟩) ?_ ?_
    · refine .cv (VOk.asg (d := (.v (.int .i64 0))) rfl rfl) rfl rfl ?_
      exact .done (.rf rfl rfl)
    refine Ok.block ?_
    refine Ok.le (σ' := ⟨[(0, (L 4 e_api_Row a0)), (1, (L 4 e_api_Row a1)), (5, (.v (.int .i64 0)))], []⟩) (.rf rfl rfl) ?_
    refine Ok.loop (fun m3 σ => ∃ (x5_1 : Int), σ = ⟨[(0, (L 4 e_api_Row a0)), (1, (L 4 e_api_Row a1)), (5, (.v (.int .i64 x5_1)))], []⟩ ∧ watchbillref27_goes.l0 k a0 a1 m3 x5_1 = some r) k ⟨0, rfl, H⟩ ?_
    rintro m3 σ ⟨x5_1, rfl, H⟩
    cases m3 with
    | zero => exact absurd H (by simp [watchbillref27_goes.l0])
    | succ m3 =>
      unfold watchbillref27_goes.l0 at H
      refine Ok.seq ?_
      refine Ok.seq ?_
      refine Ok.region (σ' := ⟨[(0, (L 4 e_api_Row a0)), (1, (L 4 e_api_Row a1)), (5, (.v (.int .i64 x5_1))), (14, (.v (.bool (decide (x5_1 < (a0.length : Int))))))], []⟩) ?_ ?_
      · refine .cv (VOk.mv (d := (.v (.int .i64 x5_1))) rfl rfl) rfl rfl ?_
        refine .cv (VOk.mv (d := (L 4 e_api_Row a0)) rfl rfl) rfl rfl ?_
        refine .cv (VOk.lenL (e := e_api_Row) (xs := a0) rfl Try.underlying28 rfl) rfl rfl ?_
        refine .cv (VOk.arith (op := .lss) (k := .i64) (a := x5_1) (b := (a0.length : Int)) rfl rfl rfl rfl) rfl rfl ?_
        exact .done (.rf rfl rfl)
      refine Ok.test (b := (decide (x5_1 < (a0.length : Int)))) rfl (fun hb7 => ?_) (fun hb7 => ?_)
      · replace H := ifT H hb7
        refine Ok.skip ?_
        refine Ok.seq ?_
        refine Ok.block ?_
        refine Ok.seq ?_
        obtain ⟨c4, H⟩ := assertE H
        obtain ⟨c5, H⟩ := assertE H
        refine Ok.drawE (σ' := ⟨[(0, (L 4 e_api_Row a0)), (1, (L 4 e_api_Row a1)), (5, (.v (.int .i64 x5_1))), (27, (.v (.bool (!(((rd a0 x5_1).URI) == ((rd a1 x5_1).URI))))))], []⟩) [⟨true, [(0, (L 4 e_api_Row a0))], (L 4 e_api_Row a0)⟩, ⟨true, [(5, (.v (.int .i64 x5_1)))], (.v (.int .i64 x5_1))⟩, ⟨true, [(17, (L 4 e_api_Row a0)), (18, (.v (.int .i64 x5_1)))], (.fp (e_api_Row (rd a0 x5_1)) 0)⟩, ⟨true, [(19, (.fp (e_api_Row (rd a0 x5_1)) 0))], (.fp (e_api_Row (rd a0 x5_1)) 0)⟩, ⟨true, [(20, (.fp (e_api_Row (rd a0 x5_1)) 0))], (S ((rd a0 x5_1).URI))⟩, ⟨true, [(1, (L 4 e_api_Row a1))], (L 4 e_api_Row a1)⟩, ⟨true, [(5, (.v (.int .i64 x5_1)))], (.v (.int .i64 x5_1))⟩, ⟨true, [(22, (L 4 e_api_Row a1)), (23, (.v (.int .i64 x5_1)))], (.fp (e_api_Row (rd a1 x5_1)) 0)⟩, ⟨true, [(24, (.fp (e_api_Row (rd a1 x5_1)) 0))], (.fp (e_api_Row (rd a1 x5_1)) 0)⟩, ⟨true, [(25, (.fp (e_api_Row (rd a1 x5_1)) 0))], (S ((rd a1 x5_1).URI))⟩, ⟨true, [(21, (S ((rd a0 x5_1).URI))), (26, (S ((rd a1 x5_1).URI)))], (.v (.bool (!(((rd a0 x5_1).URI) == ((rd a1 x5_1).URI)))))⟩] [[], [], [0, 1], [2], [3], [], [], [5, 6], [7], [8], [4, 9]] mixed (by kernel_rfl) ?_ ?_
        · refine TxtE.cons rfl ⟨.same _, trivial⟩ rfl (VOk.g (VOk.mv (d := (L 4 e_api_Row a0)) rfl rfl)) ?_
          refine TxtE.cons rfl ⟨.same _, trivial⟩ rfl (VOk.g (VOk.mv (d := (.v (.int .i64 x5_1))) rfl rfl)) ?_
          refine TxtE.cons rfl ⟨.same _, .same _, trivial⟩ rfl (VOk.g (VOk.indexL (sz := 4) (e := e_api_Row) (xs := a0) (i := x5_1) rfl Try.underlying28 sz43 rfl rfl c4)) ?_
          refine TxtE.cons rfl ⟨.same _, trivial⟩ rfl (VOk.g (VOk.to (VOk.fieldFp rfl Try.underlying43 rfl sz9 rfl) rfl)) ?_
          refine TxtE.cons rfl ⟨.same _, trivial⟩ rfl (VOk.g (VOk.loadFp (d := (S ((rd a0 x5_1).URI))) rfl Try.underlying9 rfl rfl rfl)) ?_
          refine TxtE.cons rfl ⟨.same _, trivial⟩ rfl (VOk.g (VOk.mv (d := (L 4 e_api_Row a1)) rfl rfl)) ?_
          refine TxtE.cons rfl ⟨.same _, trivial⟩ rfl (VOk.g (VOk.mv (d := (.v (.int .i64 x5_1))) rfl rfl)) ?_
          refine TxtE.cons rfl ⟨.same _, .same _, trivial⟩ rfl (VOk.g (VOk.indexL (sz := 4) (e := e_api_Row) (xs := a1) (i := x5_1) rfl Try.underlying28 sz43 rfl rfl c5)) ?_
          refine TxtE.cons rfl ⟨.same _, trivial⟩ rfl (VOk.g (VOk.to (VOk.fieldFp rfl Try.underlying43 rfl sz9 rfl) rfl)) ?_
          refine TxtE.cons rfl ⟨.same _, trivial⟩ rfl (VOk.g (VOk.loadFp (d := (S ((rd a1 x5_1).URI))) rfl Try.underlying9 rfl rfl rfl)) ?_
          refine TxtE.cons rfl ⟨.same _, .same _, trivial⟩ rfl (VOk.g (VOk.strOp (op := .neq) (a := (rd a0 x5_1).URI) (b := (rd a1 x5_1).URI) rfl rfl rfl rfl)) ?_
          exact .done (.rf rfl rfl)
        refine Ok.test (b := (!(((rd a0 x5_1).URI) == ((rd a1 x5_1).URI)))) rfl (fun hb6 => ?_) (fun hb6 => ?_)
        · replace H := ifT H hb6
          refine Ok.seq ?_
          refine Ok.region (σ' := ⟨[(4, (.v (.bool false)))], []⟩) ?_ ?_
          · refine .cv (VOk.asg (d := (.v (.bool false))) rfl rfl) rfl rfl ?_
            exact .done (.rf rfl rfl)
          refine Ok.ret ?_
          obtain rfl := Option.some.inj H
          exact ⟨.inl rfl, ⟨_, (.cons (.tmp rfl) .nil), rfl⟩, trivial⟩
        · replace H := ifF H hb6
          refine Ok.skip ?_
          refine Ok.region (σ' := ⟨[(0, (L 4 e_api_Row a0)), (1, (L 4 e_api_Row a1)), (5, (.v (.int .i64 (IntKind.i64.wrap (x5_1 + 1)))))], []⟩) ?_ ?_
          · refine .cv (VOk.mv (d := (.v (.int .i64 x5_1))) rfl rfl) rfl rfl ?_
            refine .cv (VOk.arith (op := .add) (k := .i64) (a := x5_1) (b := 1) rfl rfl rfl rfl) rfl rfl ?_
            refine .cv (VOk.asg (d := (.v (.int .i64 (IntKind.i64.wrap (x5_1 + 1))))) rfl rfl) rfl rfl ?_
            exact .done (.rf rfl rfl)
          exact ⟨m3, Nat.lt_succ_self m3, (IntKind.i64.wrap (x5_1 + 1)), rfl, H⟩
      · replace H := ifF H hb7
        refine Ok.exit ?_
        refine Ok.seq ?_
        refine Ok.region (σ' := ⟨[(4, (.v (.bool true)))], []⟩) ?_ ?_
        · refine .cv (VOk.asg (d := (.v (.bool true))) rfl rfl) rfl rfl ?_
          exact .done (.rf rfl rfl)
        refine Ok.ret ?_
        obtain rfl := Option.some.inj H
        exact ⟨.inl rfl, ⟨_, (.cons (.tmp rfl) .nil), rfl⟩, trivial⟩

/-! watchbill/watchbillref27.Next: function 12 -/
def watchbillref27_Next.l0 (k : Nat) (a1 : List T_api_Row) : Nat → Str → Int → Bool → Str → Int → Bool → List T_api_Row → Str → Int → Bool → List T_api_Row → Str → Int → Bool → List T_api_Row → List T_api_Row → Int → Option (T_watchbillref27_Sub × T_api_Body × Bool × Int)
  | 0, _, _, _, _, _, _, _, _, _, _, _, _, _, _, _, _, _ => none
  | m47 + 1, y10_0_26, y10_1_27, y10_2_28, y3_0_14, y3_1_15, y3_2_16, y3_3_17, y6_0_18, y6_1_19, y6_2_20, y6_3_21, y7_0_22, y7_1_23, y7_2_24, y7_3_25, y1203_29, x11_13 => (if (decide (x11_13 < (a1.length : Int))) = true then (if (((y10_2_28 || (decide (x11_13 ≥ (y3_3_17.length : Int)))) == false) = true → (0 : Int) ≤ x11_13 ∧ x11_13 < (a1.length : Int)) then (if (((y10_2_28 || (decide (x11_13 ≥ (y3_3_17.length : Int)))) == false) = true → (0 : Int) ≤ x11_13 ∧ x11_13 < (y3_3_17.length : Int)) then (if ((y10_2_28 || (decide (x11_13 ≥ (y3_3_17.length : Int)))) || (!((rd a1 x11_13).URI == (rd y3_3_17 x11_13).URI && ((rd a1 x11_13).Name == (rd y3_3_17 x11_13).Name && ((rd a1 x11_13).State == (rd y3_3_17 x11_13).State && ((rd a1 x11_13).Body == (rd y3_3_17 x11_13).Body && true)))))) = true then (if (0 : Int) ≤ x11_13 ∧ x11_13 < (a1.length : Int) then (if (y1203_29.length + ([(rd a1 x11_13)] : List T_api_Row).length) * 56 ≤ 140737488355328 then watchbillref27_Next.l0 k a1 m47 y10_0_26 y10_1_27 y10_2_28 y3_0_14 y3_1_15 y3_2_16 y3_3_17 y6_0_18 y6_1_19 y6_2_20 y6_3_21 y7_0_22 y7_1_23 y7_2_24 y7_3_25 (y1203_29 ++ ([(rd a1 x11_13)] : List T_api_Row)) (IntKind.i64.wrap (x11_13 + 1)) else none) else none) else watchbillref27_Next.l0 k a1 m47 y10_0_26 y10_1_27 y10_2_28 y3_0_14 y3_1_15 y3_2_16 y3_3_17 y6_0_18 y6_1_19 y6_2_20 y6_3_21 y7_0_22 y7_1_23 y7_2_24 y7_3_25 y1203_29 (IntKind.i64.wrap (x11_13 + 1))) else none) else none) else (if (([] : List T_api_Row).length + a1.length) * 56 ≤ 140737488355328 then some ((T_watchbillref27_Sub.mk y3_0_14 (IntKind.u32.wrap (y3_1_15 + 1)) true (([] : List T_api_Row) ++ a1)), (T_api_Body.mk y10_0_26 y10_1_27 y10_2_28 y1203_29), true, 0) else none))
def watchbillref27_Next (k : Nat) (a0 : T_watchbillref27_Sub) (a1 : List T_api_Row) (a2 : Bool) : Option (T_watchbillref27_Sub × T_api_Body × Bool × Int) := (((if ((a0.Begun && (!a2)) == true) = true then watchbillref24_Rows k a0.Rows a1 else some default)).bind fun (t4 : Bool) => (if ((a0.Begun && (!a2)) && t4) = true then some (a0, (T_api_Body.mk ([] : Str) 0 false ([] : List T_api_Row)), false, 0) else (if (a0.Next == 4294967295) = true then some (a0, (T_api_Body.mk ([] : Str) 0 false ([] : List T_api_Row)), false, 49) else (((if ((a2 || (!a0.Begun)) == false) = true then watchbillref27_goes k a0.Rows a1 else some default)).bind fun (t10 : Bool) => watchbillref27_Next.l0 k a1 k a0.List_ a0.Next ((a2 || (!a0.Begun)) || (!t10)) a0.List_ a0.Next a0.Begun a0.Rows ([] : Str) 0 false ([] : List T_api_Row) ([] : Str) 0 false ([] : List T_api_Row) ([] : List T_api_Row) 0))))
theorem watchbillref27_Next.ok {k : Nat} {a0 : T_watchbillref27_Sub} {a1 : List T_api_Row} {a2 : Bool} {r : T_watchbillref27_Sub × T_api_Body × Bool × Int} (H : watchbillref27_Next k a0 a1 a2 = some r) : Vx.Fn Try.prog 12 [(.agg (e_watchbillref27_Sub a0)), (L 4 e_api_Row a1), (.v (.bool a2))] [] (.tup [(.agg (e_watchbillref27_Sub r.1)), (.agg (e_api_Body r.2.1)), (.v (.bool r.2.2.1)), (.v (.int .i64 r.2.2.2))]) [] := by
  unfold watchbillref27_Next at H
  refine Vx.Fn.of_okR Try.func12 rfl (Nat.le_of_ble_eq_true rfl) ?_
  refine Ok.seq ?_
  refine Ok.region (σ' := ⟨[(1, (L 4 e_api_Row a1)), (2, (.v (.bool a2))), (3, (.bref 3 0)), (6, (.bref 6 0)), (7, (.bref 7 0))], [(3, (.box .ex (c_watchbillref27_Sub a0))), (6, (.box .ex [(S ([] : Str)), (.v (.int .u32 0)), (.v (.bool false)), (L 4 e_api_Row ([] : List T_api_Row))])), (7, (.box .ex [(S ([] : Str)), (.v (.int .u32 0)), (.v (.bool false)), (L 4 e_api_Row ([] : List T_api_Row))]))]⟩) ?_ ?_
  · refine OpsOk.cons rfl (OpOk.box 3 (cells := [(S a0.List_), (.v (.int .u32 a0.Next)), (.v (.bool a0.Begun)), (L 4 e_api_Row a0.Rows)]) rfl rfl rfl rfl) ?_
    refine OpsOk.cons rfl (OpOk.alloc 6 [none, none, none, some 4] rfl zo30 rfl rfl) ?_
    refine OpsOk.cons rfl (OpOk.alloc 7 [none, none, none, some 4] rfl zo34 rfl rfl) ?_
    refine .cv (VOk.asg (d := (.v (.bool false))) rfl rfl) rfl rfl ?_
    refine .cv (VOk.asg (d := (.v (.int .i64 0))) rfl rfl) rfl rfl ?_
    exact .done (.rf rfl rfl)
  refine Ok.seq ?_
  refine Ok.seq ?_
  obtain ⟨t4, h5, H⟩ := bindE H
  refine Ok.region (σ' := ⟨[(1, (L 4 e_api_Row a1)), (2, (.v (.bool a2))), (3, (.bref 3 0)), (6, (.bref 6 0)), (7, (.bref 7 0)), (23, (.v (.bool ((a0.Begun && (!a2)) && t4))))], [(3, (.box .ex (c_watchbillref27_Sub a0))), (6, (.box .ex [(S ([] : Str)), (.v (.int .u32 0)), (.v (.bool false)), (L 4 e_api_Row ([] : List T_api_Row))])), (7, (.box .ex [(S ([] : Str)), (.v (.int .u32 0)), (.v (.bool false)), (L 4 e_api_Row ([] : List T_api_Row))]))]⟩) ?_ ?_
  · refine .cv (VOk.to (VOk.fieldB rfl Try.underlying30 rfl sz4 rfl rfl) rfl) rfl rfl ?_
    refine .cv (VOk.loadB (d := (.v (.bool a0.Begun))) rfl Try.underlying4 rfl rfl rfl rfl) rfl rfl ?_
    refine .cv (VOk.mv (d := (.v (.bool a0.Begun))) rfl rfl) rfl rfl ?_
    refine OpsOk.consI rfl rfl rfl (.one rfl) rfl (fun hw1 => (VOk.g (VOk.mv (d := (.v (.bool a2))) rfl rfl))) ?_
    refine OpsOk.consI rfl rfl rfl (.one rfl) rfl (fun hw1 => (GOk.fr (fr' := [(15, (.v (.bool a2)))]) ⟨DLe.of_eq (cT hw1).symm, trivial⟩ (VOk.g (VOk.not (b := a2) rfl rfl)))) ?_
    refine .cv (VOk.to (VOk.pickI (b := a0.Begun) (p := (!a2)) (q := false) rfl rfl (fun hp2 => (cT (t_beq hp2))) (fun hp2 => rfl)) (pickAnd a0.Begun (!a2))) rfl rfl ?_
    refine .cv (VOk.mv (d := (.v (.bool (a0.Begun && (!a2))))) rfl rfl) rfl rfl ?_
    refine OpsOk.consI rfl rfl rfl (.one rfl) rfl (fun hw3 => (VOk.g (VOk.to (VOk.fieldB rfl Try.underlying30 rfl sz28 rfl rfl) rfl))) ?_
    refine OpsOk.consI rfl rfl rfl (.one rfl) rfl (fun hw3 => (GOk.fr (fr' := [(19, (.bref 3 3))]) ⟨DLe.of_eq (cT hw3).symm, trivial⟩ (VOk.g (VOk.loadB (d := (L 4 e_api_Row a0.Rows)) rfl Try.underlying28 rfl rfl rfl rfl)))) ?_
    refine OpsOk.consI rfl rfl rfl (.one rfl) rfl (fun hw3 => (VOk.g (VOk.mv (d := (L 4 e_api_Row a1)) rfl rfl))) ?_
    refine OpsOk.consI rfl rfl rfl (.one rfl) rfl (fun hw3 => (GOk.fr (fr' := [(20, (L 4 e_api_Row a0.Rows)), (21, (L 4 e_api_Row a1))]) ⟨DLe.of_eq (cT hw3).symm, DLe.of_eq (cT hw3).symm, trivial⟩ (GOk.call rfl rfl cl19 rfl (watchbillref24_Rows.ok (ifT h5 hw3)) rfl))) ?_
    refine .cv (VOk.to (VOk.pickI (b := (a0.Begun && (!a2))) (p := t4) (q := false) rfl rfl (fun hp6 => (cT (t_beq hp6))) (fun hp6 => rfl)) (pickAnd (a0.Begun && (!a2)) t4)) rfl rfl ?_
    exact .done (.rf rfl rfl)
  refine Ok.test (b := ((a0.Begun && (!a2)) && t4)) rfl (fun hb60 => ?_) (fun hb60 => ?_)
  · replace H := ifT H hb60
    refine Ok.seq ?_
    refine Ok.region (σ' := ⟨[(6, (.bref 6 0)), (7, (.bref 7 0)), (8, (.v (.bool false))), (9, (.v (.int .i64 0)))], [(6, (.box .ex (c_watchbillref27_Sub a0))), (7, (.box .ex (c_api_Body (T_api_Body.mk ([] : Str) 0 false ([] : List T_api_Row)))))]⟩) ?_ ?_
    · refine .cv (VOk.to (d' := (.agg (e_watchbillref27_Sub a0))) (.loadBAgg rfl Try.underlying30 rfl sz30 rfl rfl rfl) rfl) rfl rfl ?_
      refine .cv (VOk.to (d' := (.agg (e_api_Body (T_api_Body.mk ([] : Str) 0 false ([] : List T_api_Row))))) (.build [none, none, none, some 4] [(0, 1), (1, 1), (2, 1), (3, 1)] rfl Try.underlying34 (fa34 Try.underlying34) zo34 rfl rfl) rfl) rfl rfl ?_
      refine OpsOk.cons rfl (OpOk.to (σ2 := St.put ⟨_, (6, (.box .ex (c_watchbillref27_Sub a0))) :: _⟩ _ .junk) (.storeB rfl sz30 rfl rfl rfl rfl rfl rfl) rfl) ?_
      refine OpsOk.cons rfl (OpOk.to (σ2 := St.put ⟨_, (7, (.box .ex (c_api_Body (T_api_Body.mk ([] : Str) 0 false ([] : List T_api_Row))))) :: _⟩ _ .junk) (.storeB rfl sz34 rfl rfl rfl rfl rfl rfl) rfl) ?_
      refine .cv (VOk.asg (d := (.v (.bool false))) rfl rfl) rfl rfl ?_
      refine .cv (VOk.asg (d := (.v (.int .i64 0))) rfl rfl) rfl rfl ?_
      exact .done (.rf rfl rfl)
    refine Ok.ret ?_
    obtain rfl := Option.some.inj H
    exact ⟨.inl rfl, ⟨_, (.cons (.cell (VOk.to (d' := (.agg (e_watchbillref27_Sub a0))) (.loadBAgg rfl Try.underlying30 rfl sz30 rfl rfl rfl) rfl)) (.cons (.cell (VOk.to (d' := (.agg (e_api_Body (T_api_Body.mk ([] : Str) 0 false ([] : List T_api_Row))))) (.loadBAgg rfl Try.underlying34 rfl sz34 rfl rfl rfl) rfl)) (.cons (.tmp rfl) (.cons (.tmp rfl) .nil)))), rfl⟩, trivial⟩
  · replace H := ifF H hb60
    refine Ok.skip ?_
    refine Ok.seq ?_
    refine Ok.seq ?_
    refine Ok.region (σ' := ⟨[(1, (L 4 e_api_Row a1)), (2, (.v (.bool a2))), (3, (.bref 3 0)), (6, (.bref 6 0)), (7, (.bref 7 0)), (28, (.v (.bool (a0.Next == 4294967295))))], [(3, (.box .ex (c_watchbillref27_Sub a0))), (6, (.box .ex [(S ([] : Str)), (.v (.int .u32 0)), (.v (.bool false)), (L 4 e_api_Row ([] : List T_api_Row))])), (7, (.box .ex [(S ([] : Str)), (.v (.int .u32 0)), (.v (.bool false)), (L 4 e_api_Row ([] : List T_api_Row))]))]⟩) ?_ ?_
    · refine .cv (VOk.to (VOk.fieldB rfl Try.underlying30 rfl sz22 rfl rfl) rfl) rfl rfl ?_
      refine .cv (VOk.loadB (d := (.v (.int .u32 a0.Next))) rfl Try.underlying22 rfl rfl rfl rfl) rfl rfl ?_
      refine .cv (VOk.arith (op := .eql) (k := .u32) (a := a0.Next) (b := 4294967295) rfl rfl rfl rfl) rfl rfl ?_
      exact .done (.rf rfl rfl)
    refine Ok.test (b := (a0.Next == 4294967295)) rfl (fun hb59 => ?_) (fun hb59 => ?_)
    · replace H := ifT H hb59
      refine Ok.seq ?_
      refine Ok.region (σ' := ⟨[(6, (.bref 6 0)), (7, (.bref 7 0)), (8, (.v (.bool false))), (9, (.v (.int .i64 49)))], [(6, (.box .ex (c_watchbillref27_Sub a0))), (7, (.box .ex (c_api_Body (T_api_Body.mk ([] : Str) 0 false ([] : List T_api_Row)))))]⟩) ?_ ?_
      · refine .cv (VOk.to (d' := (.agg (e_watchbillref27_Sub a0))) (.loadBAgg rfl Try.underlying30 rfl sz30 rfl rfl rfl) rfl) rfl rfl ?_
        refine .cv (VOk.to (d' := (.agg (e_api_Body (T_api_Body.mk ([] : Str) 0 false ([] : List T_api_Row))))) (.build [none, none, none, some 4] [(0, 1), (1, 1), (2, 1), (3, 1)] rfl Try.underlying34 (fa34 Try.underlying34) zo34 rfl rfl) rfl) rfl rfl ?_
        refine OpsOk.cons rfl (OpOk.to (σ2 := St.put ⟨_, (6, (.box .ex (c_watchbillref27_Sub a0))) :: _⟩ _ .junk) (.storeB rfl sz30 rfl rfl rfl rfl rfl rfl) rfl) ?_
        refine OpsOk.cons rfl (OpOk.to (σ2 := St.put ⟨_, (7, (.box .ex (c_api_Body (T_api_Body.mk ([] : Str) 0 false ([] : List T_api_Row))))) :: _⟩ _ .junk) (.storeB rfl sz34 rfl rfl rfl rfl rfl rfl) rfl) ?_
        refine .cv (VOk.asg (d := (.v (.bool false))) rfl rfl) rfl rfl ?_
        refine .cv (VOk.asg (d := (.v (.int .i64 49))) rfl rfl) rfl rfl ?_
        exact .done (.rf rfl rfl)
      refine Ok.ret ?_
      obtain rfl := Option.some.inj H
      exact ⟨.inl rfl, ⟨_, (.cons (.cell (VOk.to (d' := (.agg (e_watchbillref27_Sub a0))) (.loadBAgg rfl Try.underlying30 rfl sz30 rfl rfl rfl) rfl)) (.cons (.cell (VOk.to (d' := (.agg (e_api_Body (T_api_Body.mk ([] : Str) 0 false ([] : List T_api_Row))))) (.loadBAgg rfl Try.underlying34 rfl sz34 rfl rfl rfl) rfl)) (.cons (.tmp rfl) (.cons (.tmp rfl) .nil)))), rfl⟩, trivial⟩
    · replace H := ifF H hb59
      refine Ok.skip ?_
      refine Ok.seq ?_
      obtain ⟨t10, h11, H⟩ := bindE H
      refine Ok.le (σ' := ⟨[(1, (L 4 e_api_Row a1)), (2, (.v (.bool a2))), (3, (.bref 3 0)), (6, (.bref 6 0)), (7, (.bref 7 0))], [(3, (.box .ex (c_watchbillref27_Sub a0))), (6, (.box .ex [(S ([] : Str)), (.v (.int .u32 0)), (.v (.bool false)), (L 4 e_api_Row ([] : List T_api_Row))])), (7, (.box .ex [(S ([] : Str)), (.v (.int .u32 0)), (.v (.bool false)), (L 4 e_api_Row ([] : List T_api_Row))]))]⟩) (.rf rfl rfl) ?_
      refine Ok.drawE2 (σ' := ⟨[(1, (L 4 e_api_Row a1)), (3, (.bref 3 0)), (6, (.bref 6 0)), (7, (.bref 7 0)), (10, (.bref 10 0))], [(3, (.box .ex (c_watchbillref27_Sub a0))), (6, (.box .ex [(S ([] : Str)), (.v (.int .u32 0)), (.v (.bool false)), (L 4 e_api_Row ([] : List T_api_Row))])), (7, (.box .ex [(S ([] : Str)), (.v (.int .u32 0)), (.v (.bool false)), (L 4 e_api_Row ([] : List T_api_Row))])), (10, (.box .ex [(S a0.List_), (.v (.int .u32 a0.Next)), (.v (.bool ((a2 || (!a0.Begun)) || (!t10)))), (.sref 1203)])), (1203, (.rows true 43 4 (([] : List T_api_Row).map e_api_Row)))]⟩) [⟨true, [(3, (.bref 3 0))], [(3, (.box .ex (c_watchbillref27_Sub a0)))], (.bref 3 0), [], false, []⟩, ⟨true, [(31, (.bref 3 0))], [(3, (.box .ex (c_watchbillref27_Sub a0)))], (S a0.List_), [], false, []⟩, ⟨true, [(3, (.bref 3 0))], [(3, (.box .ex (c_watchbillref27_Sub a0)))], (.bref 3 1), [], false, []⟩, ⟨true, [(33, (.bref 3 1))], [(3, (.box .ex (c_watchbillref27_Sub a0)))], (.v (.int .u32 a0.Next)), [], false, []⟩, ⟨true, [(2, (.v (.bool a2)))], [], (.v (.bool a2)), [], false, []⟩, ⟨true, [(35, (.v (.bool a2)))], [], (.v (.bool a2)), [], false, []⟩, ⟨(a2 == false), [(3, (.bref 3 0)), (36, (.v (.bool a2)))], [(3, (.box .ex (c_watchbillref27_Sub a0)))], (.bref 3 2), [], false, []⟩, ⟨(a2 == false), [(37, (bif (a2 == false) then (.bref 3 2) else .v undef)), (36, (.v (.bool a2)))], [(3, (.box .ex (c_watchbillref27_Sub a0)))], (.v (.bool a0.Begun)), [], false, []⟩, ⟨(a2 == false), [(38, (bif (a2 == false) then (.v (.bool a0.Begun)) else .v undef)), (36, (.v (.bool a2)))], [], (.v (.bool (!a0.Begun))), [], false, []⟩, ⟨true, [(36, (.v (.bool a2))), (39, (bif (a2 == false) then (.v (.bool (!a0.Begun))) else .v undef))], [], (.v (.bool (a2 || (!a0.Begun)))), [], false, []⟩, ⟨true, [(40, (.v (.bool (a2 || (!a0.Begun)))))], [], (.v (.bool (a2 || (!a0.Begun)))), [], false, []⟩, ⟨((a2 || (!a0.Begun)) == false), [(3, (.bref 3 0)), (41, (.v (.bool (a2 || (!a0.Begun)))))], [(3, (.box .ex (c_watchbillref27_Sub a0)))], (.bref 3 3), [], false, []⟩, ⟨((a2 || (!a0.Begun)) == false), [(42, (bif ((a2 || (!a0.Begun)) == false) then (.bref 3 3) else .v undef)), (41, (.v (.bool (a2 || (!a0.Begun)))))], [(3, (.box .ex (c_watchbillref27_Sub a0)))], (L 4 e_api_Row a0.Rows), [], false, []⟩, ⟨((a2 || (!a0.Begun)) == false), [(1, (L 4 e_api_Row a1)), (41, (.v (.bool (a2 || (!a0.Begun)))))], [], (L 4 e_api_Row a1), [], false, []⟩, ⟨((a2 || (!a0.Begun)) == false), [(43, (bif ((a2 || (!a0.Begun)) == false) then (L 4 e_api_Row a0.Rows) else .v undef)), (44, (bif ((a2 || (!a0.Begun)) == false) then (L 4 e_api_Row a1) else .v undef)), (41, (.v (.bool (a2 || (!a0.Begun)))))], [], (.v (.bool t10)), [], false, []⟩, ⟨((a2 || (!a0.Begun)) == false), [(45, (bif ((a2 || (!a0.Begun)) == false) then (.v (.bool t10)) else .v undef)), (41, (.v (.bool (a2 || (!a0.Begun)))))], [], (.v (.bool (!t10))), [], false, []⟩, ⟨true, [(41, (.v (.bool (a2 || (!a0.Begun))))), (46, (bif ((a2 || (!a0.Begun)) == false) then (.v (.bool (!t10))) else .v undef))], [], (.v (.bool ((a2 || (!a0.Begun)) || (!t10)))), [], false, []⟩, ⟨true, [(32, (S a0.List_)), (34, (.v (.int .u32 a0.Next))), (47, (.v (.bool ((a2 || (!a0.Begun)) || (!t10)))))], [], (.agg [(S a0.List_), (.v (.int .u32 a0.Next)), (.v (.bool ((a2 || (!a0.Begun)) || (!t10)))), (.v (.slice none 0 0))]), [], false, []⟩, ⟨true, [], [], (.bref 10 0), [(10, (.box .ex [(S ([] : Str)), (.v (.int .u32 0)), (.v (.bool false)), (.v (.slice none 0 0))]))], true, []⟩, ⟨true, [(10, (.bref 10 0)), (48, (.agg [(S a0.List_), (.v (.int .u32 a0.Next)), (.v (.bool ((a2 || (!a0.Begun)) || (!t10)))), (.v (.slice none 0 0))]))], [(10, (.box .ex [(S ([] : Str)), (.v (.int .u32 0)), (.v (.bool false)), (.v (.slice none 0 0))]))], .junk, [(10, (.box .ex [(S a0.List_), (.v (.int .u32 a0.Next)), (.v (.bool ((a2 || (!a0.Begun)) || (!t10)))), (.v (.slice none 0 0))]))], false, []⟩] [[], [0], [], [2], [], [4], [5], [5, 6], [5, 7], [5, 8], [9], [10], [10, 11], [10], [10, 12, 13], [10, 14], [10, 15], [1, 3, 16], [], [17, 18]] mixed (by kernel_rfl) ?_ ?_
      · refine TxtE2.cons ⟨.same _, trivial⟩ ⟨rfl, trivial⟩ (It2.val rfl rfl (fun T hT => (VOk.g (VOk.to (VOk.fieldB rfl Try.underlying30 rfl sz9 rfl hT.1) rfl)))) ?_
        refine TxtE2.cons ⟨.same _, trivial⟩ ⟨rfl, trivial⟩ (It2.val rfl rfl (fun T hT => (VOk.g (VOk.loadB (d := (S a0.List_)) rfl Try.underlying9 rfl rfl hT.1 rfl)))) ?_
        refine TxtE2.cons ⟨.same _, trivial⟩ ⟨rfl, trivial⟩ (It2.val rfl rfl (fun T hT => (VOk.g (VOk.to (VOk.fieldB rfl Try.underlying30 rfl sz22 rfl hT.1) rfl)))) ?_
        refine TxtE2.cons ⟨.same _, trivial⟩ ⟨rfl, trivial⟩ (It2.val rfl rfl (fun T hT => (VOk.g (VOk.loadB (d := (.v (.int .u32 a0.Next))) rfl Try.underlying22 rfl rfl hT.1 rfl)))) ?_
        refine TxtE2.cons ⟨.same _, trivial⟩ trivial (It2.val rfl rfl (fun T hT => (VOk.g (VOk.mv (d := (.v (.bool a2))) rfl rfl)))) ?_
        refine TxtE2.cons ⟨.same _, trivial⟩ trivial (It2.val rfl rfl (fun T hT => (VOk.g (VOk.mv (d := (.v (.bool a2))) rfl rfl)))) ?_
        refine TxtE2.cons ⟨.same _, .same _, trivial⟩ ⟨rfl, trivial⟩ (It2.vI rfl rfl rfl (.one rfl) (fun hw7 T hT => (VOk.g (VOk.to (VOk.fieldB rfl Try.underlying30 rfl sz4 rfl hT.1) rfl)))) ?_
        refine TxtE2.cons ⟨.same _, .same _, trivial⟩ ⟨rfl, trivial⟩ (It2.vI rfl rfl rfl (.one rfl) (fun hw7 T hT => (GOk.fr (fr' := [(37, (.bref 3 2))]) ⟨DLe.of_eq (cT hw7).symm, trivial⟩ (VOk.g (VOk.loadB (d := (.v (.bool a0.Begun))) rfl Try.underlying4 rfl rfl hT.1 rfl))))) ?_
        refine TxtE2.cons ⟨.same _, .same _, trivial⟩ trivial (It2.vI rfl rfl rfl (.one rfl) (fun hw7 T hT => (GOk.fr (fr' := [(38, (.v (.bool a0.Begun)))]) ⟨DLe.of_eq (cT hw7).symm, trivial⟩ (VOk.g (VOk.not (b := a0.Begun) rfl rfl))))) ?_
        refine TxtE2.cons ⟨.same _, .same _, trivial⟩ trivial (It2.val rfl rfl (fun T hT => (VOk.g (VOk.to (VOk.pickI (b := a2) (p := true) (q := (!a0.Begun)) rfl rfl (fun hp8 => rfl) (fun hp8 => (cT (f_beq hp8)))) (pickOr a2 (!a0.Begun)))))) ?_
        refine TxtE2.cons ⟨.same _, trivial⟩ trivial (It2.val rfl rfl (fun T hT => (VOk.g (VOk.mv (d := (.v (.bool (a2 || (!a0.Begun))))) rfl rfl)))) ?_
        refine TxtE2.cons ⟨.same _, .same _, trivial⟩ ⟨rfl, trivial⟩ (It2.vI rfl rfl rfl (.one rfl) (fun hw9 T hT => (VOk.g (VOk.to (VOk.fieldB rfl Try.underlying30 rfl sz28 rfl hT.1) rfl)))) ?_
        refine TxtE2.cons ⟨.same _, .same _, trivial⟩ ⟨rfl, trivial⟩ (It2.vI rfl rfl rfl (.one rfl) (fun hw9 T hT => (GOk.fr (fr' := [(42, (.bref 3 3))]) ⟨DLe.of_eq (cT hw9).symm, trivial⟩ (VOk.g (VOk.loadB (d := (L 4 e_api_Row a0.Rows)) rfl Try.underlying28 rfl rfl hT.1 rfl))))) ?_
        refine TxtE2.cons ⟨.same _, .same _, trivial⟩ trivial (It2.vI rfl rfl rfl (.one rfl) (fun hw9 T hT => (VOk.g (VOk.mv (d := (L 4 e_api_Row a1)) rfl rfl)))) ?_
        refine TxtE2.cons ⟨.same _, .same _, .same _, trivial⟩ trivial (It2.vI rfl rfl rfl (.one rfl) (fun hw9 T hT => (GOk.fr (fr' := [(43, (L 4 e_api_Row a0.Rows)), (44, (L 4 e_api_Row a1))]) ⟨DLe.of_eq (cT hw9).symm, DLe.of_eq (cT hw9).symm, trivial⟩ (GOk.call rfl rfl cl27 rfl (watchbillref27_goes.ok (ifT h11 hw9)) rfl)))) ?_
        refine TxtE2.cons ⟨.same _, .same _, trivial⟩ trivial (It2.vI rfl rfl rfl (.one rfl) (fun hw9 T hT => (GOk.fr (fr' := [(45, (.v (.bool t10)))]) ⟨DLe.of_eq (cT hw9).symm, trivial⟩ (VOk.g (VOk.not (b := t10) rfl rfl))))) ?_
        refine TxtE2.cons ⟨.same _, .same _, trivial⟩ trivial (It2.val rfl rfl (fun T hT => (VOk.g (VOk.to (VOk.pickI (b := (a2 || (!a0.Begun))) (p := true) (q := (!t10)) rfl rfl (fun hp12 => rfl) (fun hp12 => (cT (f_beq hp12)))) (pickOr (a2 || (!a0.Begun)) (!t10)))))) ?_
        refine TxtE2.cons ⟨.same _, .same _, .same _, trivial⟩ trivial (It2.val rfl rfl (fun T hT => (VOk.g (VOk.to (d' := (.agg [(S a0.List_), (.v (.int .u32 a0.Next)), (.v (.bool ((a2 || (!a0.Begun)) || (!t10)))), (.v (.slice none 0 0))])) (.build [none, none, none, none] [(0, 1), (1, 1), (2, 1), (3, 1)] rfl Try.underlying34 (fa34 Try.underlying34) zo34 rfl rfl) rfl)))) ?_
        refine TxtE2.cons trivial trivial (It2.alloc 10 [none, none, none, none] rfl rfl zo34 rfl rfl) ?_
        refine TxtE2.cons ⟨.same _, .same _, trivial⟩ ⟨rfl, trivial⟩ (It2.store rfl rfl sz34 rfl rfl rfl rfl rfl rfl rfl rfl) ?_
        exact .doneS (SLe.trans (Le.s (.rf rfl rfl)) (SLe.adopt 10 1203 3 43 4 rfl rfl rfl rfl rfl))
      refine Ok.seq ?_
      refine Ok.seq ?_
      refine Ok.region (σ' := ⟨[(1, (L 4 e_api_Row a1)), (3, (.bref 3 0)), (6, (.bref 6 0)), (7, (.bref 7 0)), (10, (.bref 10 0)), (11, (.v (.int .i64 0)))], [(3, (.box .ex (c_watchbillref27_Sub a0))), (6, (.box .ex [(S ([] : Str)), (.v (.int .u32 0)), (.v (.bool false)), (L 4 e_api_Row ([] : List T_api_Row))])), (7, (.box .ex [(S ([] : Str)), (.v (.int .u32 0)), (.v (.bool false)), (L 4 e_api_Row ([] : List T_api_Row))])), (10, (.box .ex [(S a0.List_), (.v (.int .u32 a0.Next)), (.v (.bool ((a2 || (!a0.Begun)) || (!t10)))), (.sref 1203)])), (1203, (.rows true 43 4 (([] : List T_api_Row).map e_api_Row)))]⟩) ?_ ?_
      · refine .cv (VOk.asg (d := (.v (.int .i64 0))) rfl rfl) rfl rfl ?_
        exact .done (.rf rfl rfl)
      refine Ok.block ?_
      refine Ok.le (σ' := ⟨[(1, (L 4 e_api_Row a1)), (3, (.bref 3 0)), (6, (.bref 6 0)), (7, (.bref 7 0)), (10, (.bref 10 0)), (11, (.v (.int .i64 0)))], [(3, (.box .ex (c_watchbillref27_Sub a0))), (6, (.box .ex [(S ([] : Str)), (.v (.int .u32 0)), (.v (.bool false)), (L 4 e_api_Row ([] : List T_api_Row))])), (7, (.box .ex [(S ([] : Str)), (.v (.int .u32 0)), (.v (.bool false)), (L 4 e_api_Row ([] : List T_api_Row))])), (10, (.box .ex [(S a0.List_), (.v (.int .u32 a0.Next)), (.v (.bool ((a2 || (!a0.Begun)) || (!t10)))), (.sref 1203)])), (1203, (.rows true 43 4 (([] : List T_api_Row).map e_api_Row)))]⟩) (.rf rfl rfl) ?_
      refine Ok.loop (fun m47 σ => ∃ (y10_0_26 : Str) (y10_1_27 : Int) (y10_2_28 : Bool) (y3_0_14 : Str) (y3_1_15 : Int) (y3_2_16 : Bool) (y3_3_17 : List T_api_Row) (y6_0_18 : Str) (y6_1_19 : Int) (y6_2_20 : Bool) (y6_3_21 : List T_api_Row) (y7_0_22 : Str) (y7_1_23 : Int) (y7_2_24 : Bool) (y7_3_25 : List T_api_Row) (y1203_29 : List T_api_Row) (x11_13 : Int), σ = ⟨[(1, (L 4 e_api_Row a1)), (3, (.bref 3 0)), (6, (.bref 6 0)), (7, (.bref 7 0)), (10, (.bref 10 0)), (11, (.v (.int .i64 x11_13)))], [(3, (.box .ex [(S y3_0_14), (.v (.int .u32 y3_1_15)), (.v (.bool y3_2_16)), (L 4 e_api_Row y3_3_17)])), (6, (.box .ex [(S y6_0_18), (.v (.int .u32 y6_1_19)), (.v (.bool y6_2_20)), (L 4 e_api_Row y6_3_21)])), (7, (.box .ex [(S y7_0_22), (.v (.int .u32 y7_1_23)), (.v (.bool y7_2_24)), (L 4 e_api_Row y7_3_25)])), (10, (.box .ex [(S y10_0_26), (.v (.int .u32 y10_1_27)), (.v (.bool y10_2_28)), (.sref 1203)])), (1203, (.rows true 43 4 (y1203_29.map e_api_Row)))]⟩ ∧ watchbillref27_Next.l0 k a1 m47 y10_0_26 y10_1_27 y10_2_28 y3_0_14 y3_1_15 y3_2_16 y3_3_17 y6_0_18 y6_1_19 y6_2_20 y6_3_21 y7_0_22 y7_1_23 y7_2_24 y7_3_25 y1203_29 x11_13 = some r) k ⟨a0.List_, a0.Next, ((a2 || (!a0.Begun)) || (!t10)), a0.List_, a0.Next, a0.Begun, a0.Rows, ([] : Str), 0, false, ([] : List T_api_Row), ([] : Str), 0, false, ([] : List T_api_Row), ([] : List T_api_Row), 0, rfl, H⟩ ?_
      rintro m47 σ ⟨y10_0_26, y10_1_27, y10_2_28, y3_0_14, y3_1_15, y3_2_16, y3_3_17, y6_0_18, y6_1_19, y6_2_20, y6_3_21, y7_0_22, y7_1_23, y7_2_24, y7_3_25, y1203_29, x11_13, rfl, H⟩
      cases m47 with
      | zero => exact absurd H (by simp [watchbillref27_Next.l0])
      | succ m47 =>
        unfold watchbillref27_Next.l0 at H
        refine Ok.seq ?_
        refine Ok.seq ?_
        refine Ok.region (σ' := ⟨[(1, (L 4 e_api_Row a1)), (3, (.bref 3 0)), (6, (.bref 6 0)), (7, (.bref 7 0)), (10, (.bref 10 0)), (11, (.v (.int .i64 x11_13))), (52, (.v (.bool (decide (x11_13 < (a1.length : Int))))))], [(3, (.box .ex [(S y3_0_14), (.v (.int .u32 y3_1_15)), (.v (.bool y3_2_16)), (L 4 e_api_Row y3_3_17)])), (6, (.box .ex [(S y6_0_18), (.v (.int .u32 y6_1_19)), (.v (.bool y6_2_20)), (L 4 e_api_Row y6_3_21)])), (7, (.box .ex [(S y7_0_22), (.v (.int .u32 y7_1_23)), (.v (.bool y7_2_24)), (L 4 e_api_Row y7_3_25)])), (10, (.box .ex [(S y10_0_26), (.v (.int .u32 y10_1_27)), (.v (.bool y10_2_28)), (.sref 1203)])), (1203, (.rows true 43 4 (y1203_29.map e_api_Row)))]⟩) ?_ ?_
        · refine .cv (VOk.mv (d := (.v (.int .i64 x11_13))) rfl rfl) rfl rfl ?_
          refine .cv (VOk.mv (d := (L 4 e_api_Row a1)) rfl rfl) rfl rfl ?_
          refine .cv (VOk.lenL (e := e_api_Row) (xs := a1) rfl Try.underlying28 rfl) rfl rfl ?_
          refine .cv (VOk.arith (op := .lss) (k := .i64) (a := x11_13) (b := (a1.length : Int)) rfl rfl rfl rfl) rfl rfl ?_
          exact .done (.rf rfl rfl)
        refine Ok.test (b := (decide (x11_13 < (a1.length : Int)))) rfl (fun hb58 => ?_) (fun hb58 => ?_)
        · replace H := ifT H hb58
          refine Ok.skip ?_
          refine Ok.seq ?_
          refine Ok.block ?_
          refine Ok.seq ?_
          obtain ⟨c51, H⟩ := assertE H
          obtain ⟨c52, H⟩ := assertE H
          refine Ok.drawE (σ' := ⟨[(1, (L 4 e_api_Row a1)), (3, (.bref 3 0)), (6, (.bref 6 0)), (7, (.bref 7 0)), (10, (.bref 10 0)), (11, (.v (.int .i64 x11_13))), (75, (.v (.bool ((y10_2_28 || (decide (x11_13 ≥ (y3_3_17.length : Int)))) || (!((rd a1 x11_13).URI == (rd y3_3_17 x11_13).URI && ((rd a1 x11_13).Name == (rd y3_3_17 x11_13).Name && ((rd a1 x11_13).State == (rd y3_3_17 x11_13).State && ((rd a1 x11_13).Body == (rd y3_3_17 x11_13).Body && true)))))))))], [(3, (.box .ex [(S y3_0_14), (.v (.int .u32 y3_1_15)), (.v (.bool y3_2_16)), (L 4 e_api_Row y3_3_17)])), (6, (.box .ex [(S y6_0_18), (.v (.int .u32 y6_1_19)), (.v (.bool y6_2_20)), (L 4 e_api_Row y6_3_21)])), (7, (.box .ex [(S y7_0_22), (.v (.int .u32 y7_1_23)), (.v (.bool y7_2_24)), (L 4 e_api_Row y7_3_25)])), (10, (.box .ex [(S y10_0_26), (.v (.int .u32 y10_1_27)), (.v (.bool y10_2_28)), (.sref 1203)])), (1203, (.rows true 43 4 (y1203_29.map e_api_Row)))]⟩) [⟨true, [(10, (.bref 10 0))], (.bref 10 2)⟩, ⟨true, [(55, (.bref 10 2))], (.v (.bool y10_2_28))⟩, ⟨true, [(56, (.v (.bool y10_2_28)))], (.v (.bool y10_2_28))⟩, It.I (y10_2_28 == false) [(11, (.v (.int .i64 x11_13))), (57, (.v (.bool y10_2_28)))] (.v (.int .i64 x11_13)), It.I (y10_2_28 == false) [(3, (.bref 3 0)), (57, (.v (.bool y10_2_28)))] (.bref 3 3), It.I (y10_2_28 == false) [(59, (bif (y10_2_28 == false) then (.bref 3 3) else .v undef)), (57, (.v (.bool y10_2_28)))] (L 4 e_api_Row y3_3_17), It.I (y10_2_28 == false) [(60, (bif (y10_2_28 == false) then (L 4 e_api_Row y3_3_17) else .v undef)), (57, (.v (.bool y10_2_28)))] (.v (.int .i64 (y3_3_17.length : Int))), It.I (y10_2_28 == false) [(58, (bif (y10_2_28 == false) then (.v (.int .i64 x11_13)) else .v undef)), (61, (bif (y10_2_28 == false) then (.v (.int .i64 (y3_3_17.length : Int))) else .v undef)), (57, (.v (.bool y10_2_28)))] (.v (.bool (decide (x11_13 ≥ (y3_3_17.length : Int))))), ⟨true, [(57, (.v (.bool y10_2_28))), (62, (bif (y10_2_28 == false) then (.v (.bool (decide (x11_13 ≥ (y3_3_17.length : Int))))) else .v undef))], (.v (.bool (y10_2_28 || (decide (x11_13 ≥ (y3_3_17.length : Int))))))⟩, ⟨true, [(63, (.v (.bool (y10_2_28 || (decide (x11_13 ≥ (y3_3_17.length : Int)))))))], (.v (.bool (y10_2_28 || (decide (x11_13 ≥ (y3_3_17.length : Int))))))⟩, It.I ((y10_2_28 || (decide (x11_13 ≥ (y3_3_17.length : Int)))) == false) [(1, (L 4 e_api_Row a1)), (64, (.v (.bool (y10_2_28 || (decide (x11_13 ≥ (y3_3_17.length : Int)))))))] (L 4 e_api_Row a1), It.I ((y10_2_28 || (decide (x11_13 ≥ (y3_3_17.length : Int)))) == false) [(11, (.v (.int .i64 x11_13))), (64, (.v (.bool (y10_2_28 || (decide (x11_13 ≥ (y3_3_17.length : Int)))))))] (.v (.int .i64 x11_13)), It.I ((y10_2_28 || (decide (x11_13 ≥ (y3_3_17.length : Int)))) == false) [(65, (bif ((y10_2_28 || (decide (x11_13 ≥ (y3_3_17.length : Int)))) == false) then (L 4 e_api_Row a1) else .v undef)), (66, (bif ((y10_2_28 || (decide (x11_13 ≥ (y3_3_17.length : Int)))) == false) then (.v (.int .i64 x11_13)) else .v undef)), (64, (.v (.bool (y10_2_28 || (decide (x11_13 ≥ (y3_3_17.length : Int)))))))] (.fp (e_api_Row (rd a1 x11_13)) 0), It.I ((y10_2_28 || (decide (x11_13 ≥ (y3_3_17.length : Int)))) == false) [(67, (bif ((y10_2_28 || (decide (x11_13 ≥ (y3_3_17.length : Int)))) == false) then (.fp (e_api_Row (rd a1 x11_13)) 0) else .v undef)), (64, (.v (.bool (y10_2_28 || (decide (x11_13 ≥ (y3_3_17.length : Int)))))))] (.agg (e_api_Row (rd a1 x11_13))), It.I ((y10_2_28 || (decide (x11_13 ≥ (y3_3_17.length : Int)))) == false) [(3, (.bref 3 0)), (64, (.v (.bool (y10_2_28 || (decide (x11_13 ≥ (y3_3_17.length : Int)))))))] (.bref 3 3), It.I ((y10_2_28 || (decide (x11_13 ≥ (y3_3_17.length : Int)))) == false) [(69, (bif ((y10_2_28 || (decide (x11_13 ≥ (y3_3_17.length : Int)))) == false) then (.bref 3 3) else .v undef)), (64, (.v (.bool (y10_2_28 || (decide (x11_13 ≥ (y3_3_17.length : Int)))))))] (L 4 e_api_Row y3_3_17), It.I ((y10_2_28 || (decide (x11_13 ≥ (y3_3_17.length : Int)))) == false) [(11, (.v (.int .i64 x11_13))), (64, (.v (.bool (y10_2_28 || (decide (x11_13 ≥ (y3_3_17.length : Int)))))))] (.v (.int .i64 x11_13)), It.I ((y10_2_28 || (decide (x11_13 ≥ (y3_3_17.length : Int)))) == false) [(70, (bif ((y10_2_28 || (decide (x11_13 ≥ (y3_3_17.length : Int)))) == false) then (L 4 e_api_Row y3_3_17) else .v undef)), (71, (bif ((y10_2_28 || (decide (x11_13 ≥ (y3_3_17.length : Int)))) == false) then (.v (.int .i64 x11_13)) else .v undef)), (64, (.v (.bool (y10_2_28 || (decide (x11_13 ≥ (y3_3_17.length : Int)))))))] (.fp (e_api_Row (rd y3_3_17 x11_13)) 0), It.I ((y10_2_28 || (decide (x11_13 ≥ (y3_3_17.length : Int)))) == false) [(72, (bif ((y10_2_28 || (decide (x11_13 ≥ (y3_3_17.length : Int)))) == false) then (.fp (e_api_Row (rd y3_3_17 x11_13)) 0) else .v undef)), (64, (.v (.bool (y10_2_28 || (decide (x11_13 ≥ (y3_3_17.length : Int)))))))] (.agg (e_api_Row (rd y3_3_17 x11_13))), It.I ((y10_2_28 || (decide (x11_13 ≥ (y3_3_17.length : Int)))) == false) [(68, (bif ((y10_2_28 || (decide (x11_13 ≥ (y3_3_17.length : Int)))) == false) then (.agg (e_api_Row (rd a1 x11_13))) else .v undef)), (73, (bif ((y10_2_28 || (decide (x11_13 ≥ (y3_3_17.length : Int)))) == false) then (.agg (e_api_Row (rd y3_3_17 x11_13))) else .v undef)), (64, (.v (.bool (y10_2_28 || (decide (x11_13 ≥ (y3_3_17.length : Int)))))))] (.v (.bool (!((rd a1 x11_13).URI == (rd y3_3_17 x11_13).URI && ((rd a1 x11_13).Name == (rd y3_3_17 x11_13).Name && ((rd a1 x11_13).State == (rd y3_3_17 x11_13).State && ((rd a1 x11_13).Body == (rd y3_3_17 x11_13).Body && true))))))), ⟨true, [(64, (.v (.bool (y10_2_28 || (decide (x11_13 ≥ (y3_3_17.length : Int))))))), (74, (bif ((y10_2_28 || (decide (x11_13 ≥ (y3_3_17.length : Int)))) == false) then (.v (.bool (!((rd a1 x11_13).URI == (rd y3_3_17 x11_13).URI && ((rd a1 x11_13).Name == (rd y3_3_17 x11_13).Name && ((rd a1 x11_13).State == (rd y3_3_17 x11_13).State && ((rd a1 x11_13).Body == (rd y3_3_17 x11_13).Body && true))))))) else .v undef))], (.v (.bool ((y10_2_28 || (decide (x11_13 ≥ (y3_3_17.length : Int)))) || (!((rd a1 x11_13).URI == (rd y3_3_17 x11_13).URI && ((rd a1 x11_13).Name == (rd y3_3_17 x11_13).Name && ((rd a1 x11_13).State == (rd y3_3_17 x11_13).State && ((rd a1 x11_13).Body == (rd y3_3_17 x11_13).Body && true))))))))⟩] [[], [0], [1], [2], [2], [2, 4], [2, 5], [2, 3, 6], [2, 7], [8], [9], [9], [9, 10, 11], [9, 12], [9], [9, 14], [9], [9, 15, 16], [9, 17], [9, 13, 18], [9, 19]] mixed (by kernel_rfl) ?_ ?_
          · refine TxtE.cons rfl ⟨.same _, trivial⟩ rfl (VOk.g (VOk.to (VOk.fieldB rfl Try.underlying34 rfl sz4 rfl rfl) rfl)) ?_
            refine TxtE.cons rfl ⟨.same _, trivial⟩ rfl (VOk.g (VOk.loadB (d := (.v (.bool y10_2_28))) rfl Try.underlying4 rfl rfl rfl rfl)) ?_
            refine TxtE.cons rfl ⟨.same _, trivial⟩ rfl (VOk.g (VOk.mv (d := (.v (.bool y10_2_28))) rfl rfl)) ?_
            refine TxtE.consI rfl ⟨.same _, .same _, trivial⟩ rfl rfl (.one rfl) (fun hw48 => (VOk.g (VOk.mv (d := (.v (.int .i64 x11_13))) rfl rfl))) ?_
            refine TxtE.consI rfl ⟨.same _, .same _, trivial⟩ rfl rfl (.one rfl) (fun hw48 => (VOk.g (VOk.to (VOk.fieldB rfl Try.underlying30 rfl sz28 rfl rfl) rfl))) ?_
            refine TxtE.consI rfl ⟨.same _, .same _, trivial⟩ rfl rfl (.one rfl) (fun hw48 => (GOk.fr (fr' := [(59, (.bref 3 3))]) ⟨DLe.of_eq (cT hw48).symm, trivial⟩ (VOk.g (VOk.loadB (d := (L 4 e_api_Row y3_3_17)) rfl Try.underlying28 rfl rfl rfl rfl)))) ?_
            refine TxtE.consI rfl ⟨.same _, .same _, trivial⟩ rfl rfl (.one rfl) (fun hw48 => (GOk.fr (fr' := [(60, (L 4 e_api_Row y3_3_17))]) ⟨DLe.of_eq (cT hw48).symm, trivial⟩ (VOk.g (VOk.lenL (e := e_api_Row) (xs := y3_3_17) rfl Try.underlying28 rfl)))) ?_
            refine TxtE.consI rfl ⟨.same _, .same _, .same _, trivial⟩ rfl rfl (.one rfl) (fun hw48 => (GOk.fr (fr' := [(58, (.v (.int .i64 x11_13))), (61, (.v (.int .i64 (y3_3_17.length : Int))))]) ⟨DLe.of_eq (cT hw48).symm, DLe.of_eq (cT hw48).symm, trivial⟩ (VOk.g (VOk.arith (op := .geq) (k := .i64) (a := x11_13) (b := (y3_3_17.length : Int)) rfl rfl rfl rfl)))) ?_
            refine TxtE.cons rfl ⟨.same _, .same _, trivial⟩ rfl (VOk.g (VOk.to (VOk.pickI (b := y10_2_28) (p := true) (q := (decide (x11_13 ≥ (y3_3_17.length : Int)))) rfl rfl (fun hp49 => rfl) (fun hp49 => (cT (f_beq hp49)))) (pickOr y10_2_28 (decide (x11_13 ≥ (y3_3_17.length : Int)))))) ?_
            refine TxtE.cons rfl ⟨.same _, trivial⟩ rfl (VOk.g (VOk.mv (d := (.v (.bool (y10_2_28 || (decide (x11_13 ≥ (y3_3_17.length : Int))))))) rfl rfl)) ?_
            refine TxtE.consI rfl ⟨.same _, .same _, trivial⟩ rfl rfl (.one rfl) (fun hw50 => (VOk.g (VOk.mv (d := (L 4 e_api_Row a1)) rfl rfl))) ?_
            refine TxtE.consI rfl ⟨.same _, .same _, trivial⟩ rfl rfl (.one rfl) (fun hw50 => (VOk.g (VOk.mv (d := (.v (.int .i64 x11_13))) rfl rfl))) ?_
            refine TxtE.consI rfl ⟨.same _, .same _, .same _, trivial⟩ rfl rfl (.one rfl) (fun hw50 => (GOk.fr (fr' := [(65, (L 4 e_api_Row a1)), (66, (.v (.int .i64 x11_13)))]) ⟨DLe.of_eq (cT hw50).symm, DLe.of_eq (cT hw50).symm, trivial⟩ (VOk.g (VOk.indexL (sz := 4) (e := e_api_Row) (xs := a1) (i := x11_13) rfl Try.underlying28 sz43 rfl rfl (c51 hw50))))) ?_
            refine TxtE.consI rfl ⟨.same _, .same _, trivial⟩ rfl rfl (.one rfl) (fun hw50 => (GOk.fr (fr' := [(67, (.fp (e_api_Row (rd a1 x11_13)) 0))]) ⟨DLe.of_eq (cT hw50).symm, trivial⟩ (VOk.g (VOk.to (d' := (.agg (e_api_Row (rd a1 x11_13)))) (.loadFpAgg rfl Try.underlying43 rfl sz43 rfl rfl) rfl)))) ?_
            refine TxtE.consI rfl ⟨.same _, .same _, trivial⟩ rfl rfl (.one rfl) (fun hw50 => (VOk.g (VOk.to (VOk.fieldB rfl Try.underlying30 rfl sz28 rfl rfl) rfl))) ?_
            refine TxtE.consI rfl ⟨.same _, .same _, trivial⟩ rfl rfl (.one rfl) (fun hw50 => (GOk.fr (fr' := [(69, (.bref 3 3))]) ⟨DLe.of_eq (cT hw50).symm, trivial⟩ (VOk.g (VOk.loadB (d := (L 4 e_api_Row y3_3_17)) rfl Try.underlying28 rfl rfl rfl rfl)))) ?_
            refine TxtE.consI rfl ⟨.same _, .same _, trivial⟩ rfl rfl (.one rfl) (fun hw50 => (VOk.g (VOk.mv (d := (.v (.int .i64 x11_13))) rfl rfl))) ?_
            refine TxtE.consI rfl ⟨.same _, .same _, .same _, trivial⟩ rfl rfl (.one rfl) (fun hw50 => (GOk.fr (fr' := [(70, (L 4 e_api_Row y3_3_17)), (71, (.v (.int .i64 x11_13)))]) ⟨DLe.of_eq (cT hw50).symm, DLe.of_eq (cT hw50).symm, trivial⟩ (VOk.g (VOk.indexL (sz := 4) (e := e_api_Row) (xs := y3_3_17) (i := x11_13) rfl Try.underlying28 sz43 rfl rfl (c52 hw50))))) ?_
            refine TxtE.consI rfl ⟨.same _, .same _, trivial⟩ rfl rfl (.one rfl) (fun hw50 => (GOk.fr (fr' := [(72, (.fp (e_api_Row (rd y3_3_17 x11_13)) 0))]) ⟨DLe.of_eq (cT hw50).symm, trivial⟩ (VOk.g (VOk.to (d' := (.agg (e_api_Row (rd y3_3_17 x11_13)))) (.loadFpAgg rfl Try.underlying43 rfl sz43 rfl rfl) rfl)))) ?_
            refine TxtE.consI rfl ⟨.same _, .same _, .same _, trivial⟩ rfl rfl (.one rfl) (fun hw50 => (GOk.fr (fr' := [(68, (.agg (e_api_Row (rd a1 x11_13)))), (73, (.agg (e_api_Row (rd y3_3_17 x11_13))))]) ⟨DLe.of_eq (cT hw50).symm, DLe.of_eq (cT hw50).symm, trivial⟩ (VOk.g (VOk.eqS' (op := .neq) (d := (.v (.bool (!((rd a1 x11_13).URI == (rd y3_3_17 x11_13).URI && ((rd a1 x11_13).Name == (rd y3_3_17 x11_13).Name && ((rd a1 x11_13).State == (rd y3_3_17 x11_13).State && ((rd a1 x11_13).Body == (rd y3_3_17 x11_13).Body && true)))))))) rfl (.inr rfl) (eqt43 9998) ag43 eg43 rfl rfl rfl rfl)))) ?_
            refine TxtE.cons rfl ⟨.same _, .same _, trivial⟩ rfl (VOk.g (VOk.to (VOk.pickI (b := (y10_2_28 || (decide (x11_13 ≥ (y3_3_17.length : Int))))) (p := true) (q := (!((rd a1 x11_13).URI == (rd y3_3_17 x11_13).URI && ((rd a1 x11_13).Name == (rd y3_3_17 x11_13).Name && ((rd a1 x11_13).State == (rd y3_3_17 x11_13).State && ((rd a1 x11_13).Body == (rd y3_3_17 x11_13).Body && true)))))) rfl rfl (fun hp53 => rfl) (fun hp53 => (cT (f_beq hp53)))) (pickOr (y10_2_28 || (decide (x11_13 ≥ (y3_3_17.length : Int)))) (!((rd a1 x11_13).URI == (rd y3_3_17 x11_13).URI && ((rd a1 x11_13).Name == (rd y3_3_17 x11_13).Name && ((rd a1 x11_13).State == (rd y3_3_17 x11_13).State && ((rd a1 x11_13).Body == (rd y3_3_17 x11_13).Body && true)))))))) ?_
            exact .done (.rf rfl rfl)
          refine Ok.test (b := ((y10_2_28 || (decide (x11_13 ≥ (y3_3_17.length : Int)))) || (!((rd a1 x11_13).URI == (rd y3_3_17 x11_13).URI && ((rd a1 x11_13).Name == (rd y3_3_17 x11_13).Name && ((rd a1 x11_13).State == (rd y3_3_17 x11_13).State && ((rd a1 x11_13).Body == (rd y3_3_17 x11_13).Body && true))))))) rfl (fun hb56 => ?_) (fun hb56 => ?_)
          · replace H := ifT H hb56
            obtain ⟨c54, H⟩ := assertE H
            obtain ⟨c55, H⟩ := assertE H
            refine Ok.le (σ' := ⟨[(1, (L 4 e_api_Row a1)), (3, (.bref 3 0)), (6, (.bref 6 0)), (7, (.bref 7 0)), (10, (.bref 10 0)), (11, (.v (.int .i64 x11_13)))], [(3, (.box .ex [(S y3_0_14), (.v (.int .u32 y3_1_15)), (.v (.bool y3_2_16)), (L 4 e_api_Row y3_3_17)])), (6, (.box .ex [(S y6_0_18), (.v (.int .u32 y6_1_19)), (.v (.bool y6_2_20)), (L 4 e_api_Row y6_3_21)])), (7, (.box .ex [(S y7_0_22), (.v (.int .u32 y7_1_23)), (.v (.bool y7_2_24)), (L 4 e_api_Row y7_3_25)])), (10, (.box .ex [(S y10_0_26), (.v (.int .u32 y10_1_27)), (.v (.bool y10_2_28)), (.sref 1203)])), (1203, (.rows true 43 4 (y1203_29.map e_api_Row)))]⟩) (.rf rfl rfl) ?_
            refine Ok.drawE2 (σ' := ⟨[(1, (L 4 e_api_Row a1)), (3, (.bref 3 0)), (6, (.bref 6 0)), (7, (.bref 7 0)), (10, (.bref 10 0)), (11, (.v (.int .i64 x11_13)))], [(3, (.box .ex [(S y3_0_14), (.v (.int .u32 y3_1_15)), (.v (.bool y3_2_16)), (L 4 e_api_Row y3_3_17)])), (6, (.box .ex [(S y6_0_18), (.v (.int .u32 y6_1_19)), (.v (.bool y6_2_20)), (L 4 e_api_Row y6_3_21)])), (7, (.box .ex [(S y7_0_22), (.v (.int .u32 y7_1_23)), (.v (.bool y7_2_24)), (L 4 e_api_Row y7_3_25)])), (10, (.box .ex [(S y10_0_26), (.v (.int .u32 y10_1_27)), (.v (.bool y10_2_28)), (.sref 1203)])), (1203, (.rows true 43 4 ((y1203_29 ++ ([(rd a1 x11_13)] : List T_api_Row)).map e_api_Row)))]⟩) [⟨true, [(10, (.bref 10 0))], [(10, (.box .ex [(S y10_0_26), (.v (.int .u32 y10_1_27)), (.v (.bool y10_2_28)), (.sref 1203)]))], (.bref 10 3), [], false, []⟩, ⟨true, [(76, (.bref 10 3))], [(10, (.box .ex [(S y10_0_26), (.v (.int .u32 y10_1_27)), (.v (.bool y10_2_28)), (.sref 1203)]))], (.sref 1203), [], false, []⟩, ⟨true, [(1, (L 4 e_api_Row a1))], [], (L 4 e_api_Row a1), [], false, []⟩, ⟨true, [(11, (.v (.int .i64 x11_13)))], [], (.v (.int .i64 x11_13)), [], false, []⟩, ⟨true, [(78, (L 4 e_api_Row a1)), (79, (.v (.int .i64 x11_13)))], [], (.fp (e_api_Row (rd a1 x11_13)) 0), [], false, []⟩, ⟨true, [(80, (.fp (e_api_Row (rd a1 x11_13)) 0))], [], (.agg (e_api_Row (rd a1 x11_13))), [], false, []⟩, ⟨true, [(81, (.agg (e_api_Row (rd a1 x11_13))))], [], (L 4 e_api_Row ([(rd a1 x11_13)] : List T_api_Row)), [], false, []⟩, ⟨true, [(77, (.sref 1203)), (82, (L 4 e_api_Row ([(rd a1 x11_13)] : List T_api_Row)))], [(1203, (.rows true 43 4 (y1203_29.map e_api_Row)))], (.sref 83), [(83, (.rows true 43 4 ((y1203_29 ++ ([(rd a1 x11_13)] : List T_api_Row)).map e_api_Row))), (1203, .none)], true, []⟩, ⟨true, [(10, (.bref 10 0))], [(10, (.box .ex [(S y10_0_26), (.v (.int .u32 y10_1_27)), (.v (.bool y10_2_28)), (.sref 1203)]))], (.bref 10 3), [], false, []⟩, ⟨true, [(84, (.bref 10 3)), (83, (.sref 83))], [(10, (.box .ex [(S y10_0_26), (.v (.int .u32 y10_1_27)), (.v (.bool y10_2_28)), (.sref 1203)])), (83, (.rows true 43 4 ((y1203_29 ++ ([(rd a1 x11_13)] : List T_api_Row)).map e_api_Row)))], .junk, [(10, (.box .ex [(S y10_0_26), (.v (.int .u32 y10_1_27)), (.v (.bool y10_2_28)), (.sref 83)]))], false, []⟩] [[], [0], [], [], [2, 3], [4], [5], [1, 6], [], [0, 1, 7, 8]] mixed (by kernel_rfl) ?_ ?_
            · refine TxtE2.cons ⟨.same _, trivial⟩ ⟨rfl, trivial⟩ (It2.val rfl rfl (fun T hT => (VOk.g (VOk.to (VOk.fieldB rfl Try.underlying34 rfl sz28 rfl hT.1) rfl)))) ?_
              refine TxtE2.cons ⟨.same _, trivial⟩ ⟨rfl, trivial⟩ (It2.val rfl rfl (fun T hT => (VOk.g (VOk.loadB (d := (.sref 1203)) rfl Try.underlying28 rfl rfl hT.1 rfl)))) ?_
              refine TxtE2.cons ⟨.same _, trivial⟩ trivial (It2.val rfl rfl (fun T hT => (VOk.g (VOk.mv (d := (L 4 e_api_Row a1)) rfl rfl)))) ?_
              refine TxtE2.cons ⟨.same _, trivial⟩ trivial (It2.val rfl rfl (fun T hT => (VOk.g (VOk.mv (d := (.v (.int .i64 x11_13))) rfl rfl)))) ?_
              refine TxtE2.cons ⟨.same _, .same _, trivial⟩ trivial (It2.val rfl rfl (fun T hT => (VOk.g (VOk.indexL (sz := 4) (e := e_api_Row) (xs := a1) (i := x11_13) rfl Try.underlying28 sz43 rfl rfl c54)))) ?_
              refine TxtE2.cons ⟨.same _, trivial⟩ trivial (It2.val rfl rfl (fun T hT => (VOk.g (VOk.to (d' := (.agg (e_api_Row (rd a1 x11_13)))) (.loadFpAgg rfl Try.underlying43 rfl sz43 rfl rfl) rfl)))) ?_
              refine TxtE2.cons ⟨.same _, trivial⟩ trivial (It2.val rfl rfl (fun T hT => (GOk.to (d' := (L 4 e_api_Row ([(rd a1 x11_13)] : List T_api_Row))) (GOk.lit rfl Try.underlying28 sz43 zs43 rfl rfl rfl rfl) rfl))) ?_
              refine TxtE2.cons ⟨.same _, .same _, trivial⟩ ⟨rfl, trivial⟩ (It2.appendL 83 (e := e_api_Row) (xs := y1203_29) (ys := ([(rd a1 x11_13)] : List T_api_Row)) rfl rfl Try.underlying28 elt43 rfl rfl rfl rfl c55 rfl rfl) ?_
              refine TxtE2.cons ⟨.same _, trivial⟩ ⟨rfl, trivial⟩ (It2.val rfl rfl (fun T hT => (VOk.g (VOk.to (VOk.fieldB rfl Try.underlying34 rfl sz28 rfl hT.1) rfl)))) ?_
              refine TxtE2.cons ⟨.same _, .same _, trivial⟩ ⟨rfl, rfl, trivial⟩ (It2.store rfl rfl sz28 rfl rfl rfl rfl rfl rfl rfl rfl) ?_
              exact .doneS (SLe.trans (Le.s (.rf rfl rfl)) (SLe.ren 83 1203 rfl rfl))
            refine Ok.region (σ' := ⟨[(1, (L 4 e_api_Row a1)), (3, (.bref 3 0)), (6, (.bref 6 0)), (7, (.bref 7 0)), (10, (.bref 10 0)), (11, (.v (.int .i64 (IntKind.i64.wrap (x11_13 + 1)))))], [(3, (.box .ex [(S y3_0_14), (.v (.int .u32 y3_1_15)), (.v (.bool y3_2_16)), (L 4 e_api_Row y3_3_17)])), (6, (.box .ex [(S y6_0_18), (.v (.int .u32 y6_1_19)), (.v (.bool y6_2_20)), (L 4 e_api_Row y6_3_21)])), (7, (.box .ex [(S y7_0_22), (.v (.int .u32 y7_1_23)), (.v (.bool y7_2_24)), (L 4 e_api_Row y7_3_25)])), (10, (.box .ex [(S y10_0_26), (.v (.int .u32 y10_1_27)), (.v (.bool y10_2_28)), (.sref 1203)])), (1203, (.rows true 43 4 ((y1203_29 ++ ([(rd a1 x11_13)] : List T_api_Row)).map e_api_Row)))]⟩) ?_ ?_
            · refine .cv (VOk.mv (d := (.v (.int .i64 x11_13))) rfl rfl) rfl rfl ?_
              refine .cv (VOk.arith (op := .add) (k := .i64) (a := x11_13) (b := 1) rfl rfl rfl rfl) rfl rfl ?_
              refine .cv (VOk.asg (d := (.v (.int .i64 (IntKind.i64.wrap (x11_13 + 1))))) rfl rfl) rfl rfl ?_
              exact .done (.rf rfl rfl)
            exact ⟨m47, Nat.lt_succ_self m47, y10_0_26, y10_1_27, y10_2_28, y3_0_14, y3_1_15, y3_2_16, y3_3_17, y6_0_18, y6_1_19, y6_2_20, y6_3_21, y7_0_22, y7_1_23, y7_2_24, y7_3_25, (y1203_29 ++ ([(rd a1 x11_13)] : List T_api_Row)), (IntKind.i64.wrap (x11_13 + 1)), rfl, H⟩
          · replace H := ifF H hb56
            refine Ok.skip ?_
            refine Ok.region (σ' := ⟨[(1, (L 4 e_api_Row a1)), (3, (.bref 3 0)), (6, (.bref 6 0)), (7, (.bref 7 0)), (10, (.bref 10 0)), (11, (.v (.int .i64 (IntKind.i64.wrap (x11_13 + 1)))))], [(3, (.box .ex [(S y3_0_14), (.v (.int .u32 y3_1_15)), (.v (.bool y3_2_16)), (L 4 e_api_Row y3_3_17)])), (6, (.box .ex [(S y6_0_18), (.v (.int .u32 y6_1_19)), (.v (.bool y6_2_20)), (L 4 e_api_Row y6_3_21)])), (7, (.box .ex [(S y7_0_22), (.v (.int .u32 y7_1_23)), (.v (.bool y7_2_24)), (L 4 e_api_Row y7_3_25)])), (10, (.box .ex [(S y10_0_26), (.v (.int .u32 y10_1_27)), (.v (.bool y10_2_28)), (.sref 1203)])), (1203, (.rows true 43 4 (y1203_29.map e_api_Row)))]⟩) ?_ ?_
            · refine .cv (VOk.mv (d := (.v (.int .i64 x11_13))) rfl rfl) rfl rfl ?_
              refine .cv (VOk.arith (op := .add) (k := .i64) (a := x11_13) (b := 1) rfl rfl rfl rfl) rfl rfl ?_
              refine .cv (VOk.asg (d := (.v (.int .i64 (IntKind.i64.wrap (x11_13 + 1))))) rfl rfl) rfl rfl ?_
              exact .done (.rf rfl rfl)
            exact ⟨m47, Nat.lt_succ_self m47, y10_0_26, y10_1_27, y10_2_28, y3_0_14, y3_1_15, y3_2_16, y3_3_17, y6_0_18, y6_1_19, y6_2_20, y6_3_21, y7_0_22, y7_1_23, y7_2_24, y7_3_25, y1203_29, (IntKind.i64.wrap (x11_13 + 1)), rfl, H⟩
        · replace H := ifF H hb58
          refine Ok.exit ?_
          refine Ok.seq ?_
          obtain ⟨c57, H⟩ := assertE H
          refine Ok.frzL 1203 (e := e_api_Row) (xs := y1203_29) rfl ?_
          refine Ok.le (σ' := ⟨[(1, (L 4 e_api_Row a1)), (3, (.bref 3 0)), (6, (.bref 6 0)), (7, (.bref 7 0)), (10, (.bref 10 0))], [(3, (.box .ex [(S y3_0_14), (.v (.int .u32 y3_1_15)), (.v (.bool y3_2_16)), (L 4 e_api_Row y3_3_17)])), (6, (.box .ex [(S y6_0_18), (.v (.int .u32 y6_1_19)), (.v (.bool y6_2_20)), (L 4 e_api_Row y6_3_21)])), (7, (.box .ex [(S y7_0_22), (.v (.int .u32 y7_1_23)), (.v (.bool y7_2_24)), (L 4 e_api_Row y7_3_25)])), (10, (.box .ex [(S y10_0_26), (.v (.int .u32 y10_1_27)), (.v (.bool y10_2_28)), (L 4 e_api_Row y1203_29)]))]⟩) (.rf rfl rfl) ?_
          refine Ok.drawE2 (σ' := ⟨[(6, (.bref 6 0)), (7, (.bref 7 0)), (8, (.v (.bool true))), (9, (.v (.int .i64 0)))], [(6, (.box .ex (c_watchbillref27_Sub (T_watchbillref27_Sub.mk y3_0_14 (IntKind.u32.wrap (y3_1_15 + 1)) true (([] : List T_api_Row) ++ a1))))), (7, (.box .ex (c_api_Body (T_api_Body.mk y10_0_26 y10_1_27 y10_2_28 y1203_29))))]⟩) [⟨true, [(3, (.bref 3 0))], [(3, (.box .ex [(S y3_0_14), (.v (.int .u32 y3_1_15)), (.v (.bool y3_2_16)), (L 4 e_api_Row y3_3_17)]))], (.bref 3 0), [], false, []⟩, ⟨true, [(85, (.bref 3 0))], [(3, (.box .ex [(S y3_0_14), (.v (.int .u32 y3_1_15)), (.v (.bool y3_2_16)), (L 4 e_api_Row y3_3_17)]))], (S y3_0_14), [], false, []⟩, ⟨true, [(3, (.bref 3 0))], [(3, (.box .ex [(S y3_0_14), (.v (.int .u32 y3_1_15)), (.v (.bool y3_2_16)), (L 4 e_api_Row y3_3_17)]))], (.bref 3 1), [], false, []⟩, ⟨true, [(87, (.bref 3 1))], [(3, (.box .ex [(S y3_0_14), (.v (.int .u32 y3_1_15)), (.v (.bool y3_2_16)), (L 4 e_api_Row y3_3_17)]))], (.v (.int .u32 y3_1_15)), [], false, []⟩, ⟨true, [(88, (.v (.int .u32 y3_1_15)))], [], (.v (.int .u32 (IntKind.u32.wrap (y3_1_15 + 1)))), [], false, []⟩, ⟨true, [], [], (.clist 4 (List.map e_api_Row ([] : List T_api_Row))), [], false, []⟩, ⟨true, [(1, (L 4 e_api_Row a1))], [], (L 4 e_api_Row a1), [], false, []⟩, ⟨true, [(90, (.clist 4 (List.map e_api_Row ([] : List T_api_Row)))), (91, (L 4 e_api_Row a1))], [], (L 4 e_api_Row (([] : List T_api_Row) ++ a1)), [], false, []⟩, ⟨true, [(86, (S y3_0_14)), (89, (.v (.int .u32 (IntKind.u32.wrap (y3_1_15 + 1))))), (92, (L 4 e_api_Row (([] : List T_api_Row) ++ a1)))], [], (.agg (e_watchbillref27_Sub (T_watchbillref27_Sub.mk y3_0_14 (IntKind.u32.wrap (y3_1_15 + 1)) true (([] : List T_api_Row) ++ a1)))), [], false, []⟩, ⟨true, [(10, (.bref 10 0))], [(10, (.box .ex [(S y10_0_26), (.v (.int .u32 y10_1_27)), (.v (.bool y10_2_28)), (L 4 e_api_Row y1203_29)]))], (.agg (e_api_Body (T_api_Body.mk y10_0_26 y10_1_27 y10_2_28 y1203_29))), [], false, []⟩, ⟨true, [(6, (.bref 6 0)), (93, (.agg (e_watchbillref27_Sub (T_watchbillref27_Sub.mk y3_0_14 (IntKind.u32.wrap (y3_1_15 + 1)) true (([] : List T_api_Row) ++ a1)))))], [(6, (.box .ex [(S y6_0_18), (.v (.int .u32 y6_1_19)), (.v (.bool y6_2_20)), (L 4 e_api_Row y6_3_21)]))], .junk, [(6, (.box .ex (c_watchbillref27_Sub (T_watchbillref27_Sub.mk y3_0_14 (IntKind.u32.wrap (y3_1_15 + 1)) true (([] : List T_api_Row) ++ a1)))))], false, []⟩, ⟨true, [(7, (.bref 7 0)), (94, (.agg (e_api_Body (T_api_Body.mk y10_0_26 y10_1_27 y10_2_28 y1203_29))))], [(7, (.box .ex [(S y7_0_22), (.v (.int .u32 y7_1_23)), (.v (.bool y7_2_24)), (L 4 e_api_Row y7_3_25)]))], .junk, [(7, (.box .ex (c_api_Body (T_api_Body.mk y10_0_26 y10_1_27 y10_2_28 y1203_29))))], false, []⟩, ⟨true, [], [], (.v (.bool true)), [], false, []⟩, ⟨true, [], [], (.v (.int .i64 0)), [], false, []⟩] [[], [0], [], [2], [3], [], [], [5, 6], [1, 4, 7], [], [8], [9], [], []] mixed (by kernel_rfl) ?_ ?_
          · refine TxtE2.cons ⟨.same _, trivial⟩ ⟨rfl, trivial⟩ (It2.val rfl rfl (fun T hT => (VOk.g (VOk.to (VOk.fieldB rfl Try.underlying30 rfl sz9 rfl hT.1) rfl)))) ?_
            refine TxtE2.cons ⟨.same _, trivial⟩ ⟨rfl, trivial⟩ (It2.val rfl rfl (fun T hT => (VOk.g (VOk.loadB (d := (S y3_0_14)) rfl Try.underlying9 rfl rfl hT.1 rfl)))) ?_
            refine TxtE2.cons ⟨.same _, trivial⟩ ⟨rfl, trivial⟩ (It2.val rfl rfl (fun T hT => (VOk.g (VOk.to (VOk.fieldB rfl Try.underlying30 rfl sz22 rfl hT.1) rfl)))) ?_
            refine TxtE2.cons ⟨.same _, trivial⟩ ⟨rfl, trivial⟩ (It2.val rfl rfl (fun T hT => (VOk.g (VOk.loadB (d := (.v (.int .u32 y3_1_15))) rfl Try.underlying22 rfl rfl hT.1 rfl)))) ?_
            refine TxtE2.cons ⟨.same _, trivial⟩ trivial (It2.val rfl rfl (fun T hT => (VOk.g (VOk.arith (op := .add) (k := .u32) (a := y3_1_15) (b := 1) rfl rfl rfl rfl)))) ?_
            refine TxtE2.cons trivial trivial (It2.val rfl rfl (fun T hT => (GOk.to (d' := (.clist 4 (List.map e_api_Row ([] : List T_api_Row)))) (GOk.litC rfl Try.underlying28 sz43 zs43 rfl rfl rfl rfl) rfl))) ?_
            refine TxtE2.cons ⟨.same _, trivial⟩ trivial (It2.val rfl rfl (fun T hT => (VOk.g (VOk.mv (d := (L 4 e_api_Row a1)) rfl rfl)))) ?_
            refine TxtE2.cons ⟨.same _, .same _, trivial⟩ trivial (It2.val rfl rfl (fun T hT => (GOk.appendC (e := e_api_Row) (xs := ([] : List T_api_Row)) (ys := a1) rfl Try.underlying28 elt43 (.same _) rfl c57))) ?_
            refine TxtE2.cons ⟨.same _, .same _, .same _, trivial⟩ trivial (It2.val rfl rfl (fun T hT => (VOk.g (VOk.to (d' := (.agg (e_watchbillref27_Sub (T_watchbillref27_Sub.mk y3_0_14 (IntKind.u32.wrap (y3_1_15 + 1)) true (([] : List T_api_Row) ++ a1))))) (.build [none, none, none, some 4] [(0, 1), (1, 1), (2, 1), (3, 1)] rfl Try.underlying30 (fa30 Try.underlying30) zo30 rfl rfl) rfl)))) ?_
            refine TxtE2.cons ⟨.same _, trivial⟩ ⟨rfl, trivial⟩ (It2.val rfl rfl (fun T hT => (VOk.g (VOk.to (d' := (.agg (e_api_Body (T_api_Body.mk y10_0_26 y10_1_27 y10_2_28 y1203_29)))) (.loadBAgg rfl Try.underlying34 rfl sz34 rfl hT.1 rfl) rfl)))) ?_
            refine TxtE2.cons ⟨.same _, .same _, trivial⟩ ⟨rfl, trivial⟩ (It2.store rfl rfl sz30 rfl rfl rfl rfl rfl rfl rfl rfl) ?_
            refine TxtE2.cons ⟨.same _, .same _, trivial⟩ ⟨rfl, trivial⟩ (It2.store rfl rfl sz34 rfl rfl rfl rfl rfl rfl rfl rfl) ?_
            refine TxtE2.cons trivial trivial (It2.val rfl rfl (fun T hT => (VOk.g (VOk.asg (d := (.v (.bool true))) rfl rfl)))) ?_
            refine TxtE2.cons trivial trivial (It2.val rfl rfl (fun T hT => (VOk.g (VOk.asg (d := (.v (.int .i64 0))) rfl rfl)))) ?_
            exact .done (.rf rfl rfl)
          refine Ok.ret ?_
          obtain rfl := Option.some.inj H
          exact ⟨.inl rfl, ⟨_, (.cons (.cell (VOk.to (d' := (.agg (e_watchbillref27_Sub (T_watchbillref27_Sub.mk y3_0_14 (IntKind.u32.wrap (y3_1_15 + 1)) true (([] : List T_api_Row) ++ a1))))) (.loadBAgg rfl Try.underlying30 rfl sz30 rfl rfl rfl) rfl)) (.cons (.cell (VOk.to (d' := (.agg (e_api_Body (T_api_Body.mk y10_0_26 y10_1_27 y10_2_28 y1203_29)))) (.loadBAgg rfl Try.underlying34 rfl sz34 rfl rfl rfl) rfl)) (.cons (.tmp rfl) (.cons (.tmp rfl) .nil)))), rfl⟩, trivial⟩

end Go.Proofs.Ytkmifmkdloeeeaa.Sh
