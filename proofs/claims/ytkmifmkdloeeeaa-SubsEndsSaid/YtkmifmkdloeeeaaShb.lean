import Derived.Test.YtkmifmkdloeeeaaProg
import Derived.Test.YtkmifmkdloeeeaaSha
namespace Go.Proofs.Ytkmifmkdloeeeaa.Sh
open Go Go.RowKit Go.Proofs.Vx
set_option linter.unusedVariables false

set_option maxRecDepth 100000
set_option maxHeartbeats 1000000
/-! watchbill/watchbillref27.Take: function 18 -/
def watchbillref27_Take.l1 (k : Nat) (c0 : Bool → Int → List T_api_Row → Str → Int → Bool → List T_api_Row → Bool → Int → List T_api_Row → Int → Option (T_watchbillref27_Client × Int)) (x6_3 : Int) : Nat → Bool → Int → List T_api_Row → Str → Int → Bool → List T_api_Row → Bool → Int → List T_api_Row → Int → Option (T_watchbillref27_Client × Int)
  | 0, _, _, _, _, _, _, _, _, _, _, _ => none
  | m48 + 1, y2_0_27, y2_1_28, y2_2_29, y3_0_30, y3_1_31, y3_2_32, y3_3_33, y4_0_34, y4_1_35, y1082_36, x7_26 => (if (decide (x7_26 < x6_3)) = true then (if (0 : Int) ≤ x6_3 ∧ x6_3 < (y3_3_33.length : Int) then (if (0 : Int) ≤ x7_26 ∧ x7_26 < (y3_3_33.length : Int) then (if (((rd y3_3_33 x6_3).URI) == ((rd y3_3_33 x7_26).URI)) = true then some ((T_watchbillref27_Client.mk y2_0_27 y2_1_28 y2_2_29), 35) else watchbillref27_Take.l1 k c0 x6_3 m48 y2_0_27 y2_1_28 y2_2_29 y3_0_30 y3_1_31 y3_2_32 y3_3_33 y4_0_34 y4_1_35 y1082_36 (IntKind.i64.wrap (x7_26 + 1))) else none) else none) else c0 y2_0_27 y2_1_28 y2_2_29 y3_0_30 y3_1_31 y3_2_32 y3_3_33 y4_0_34 y4_1_35 y1082_36 (IntKind.i64.wrap (x6_3 + 1)))
def watchbillref27_Take.l3 (k : Nat) (c2 : Str → Int → Bool → List T_api_Row → Bool → Int → Bool → Int → List T_api_Row → List T_api_Row → Int → Option (T_watchbillref27_Client × Int)) (x9_54 : Int) : Nat → Str → Int → Bool → List T_api_Row → Bool → Int → Bool → Int → List T_api_Row → List T_api_Row → Int → Int → Option (T_watchbillref27_Client × Int)
  | 0, _, _, _, _, _, _, _, _, _, _, _, _ => none
  | m101 + 1, y3_0_79, y3_1_80, y3_2_81, y3_3_82, y4_0_83, y4_1_84, y8_0_85, y8_1_86, y1082_87, y1162_88, x10_77, x11_78 => (if (decide (x11_78 < (y1162_88.length : Int))) = true then (if (0 : Int) ≤ x11_78 ∧ x11_78 < (y1162_88.length : Int) then (if (0 : Int) ≤ x9_54 ∧ x9_54 < (y3_3_82.length : Int) then (if (((rd y1162_88 x11_78).URI) == ((rd y3_3_82 x9_54).URI)) = true then watchbillref27_Take.l3 k c2 x9_54 m101 y3_0_79 y3_1_80 y3_2_81 y3_3_82 y4_0_83 y4_1_84 y8_0_85 y8_1_86 y1082_87 y1162_88 x11_78 (IntKind.i64.wrap (x11_78 + 1)) else watchbillref27_Take.l3 k c2 x9_54 m101 y3_0_79 y3_1_80 y3_2_81 y3_3_82 y4_0_83 y4_1_84 y8_0_85 y8_1_86 y1082_87 y1162_88 x10_77 (IntKind.i64.wrap (x11_78 + 1))) else none) else none) else (if (decide (x10_77 < 0)) = true then (if (0 : Int) ≤ x9_54 ∧ x9_54 < (y3_3_82.length : Int) then (if (y1162_88.length + ([(rd y3_3_82 x9_54)] : List T_api_Row).length) * 56 ≤ 140737488355328 then c2 y3_0_79 y3_1_80 y3_2_81 y3_3_82 y4_0_83 y4_1_84 y8_0_85 y8_1_86 y1082_87 (y1162_88 ++ ([(rd y3_3_82 x9_54)] : List T_api_Row)) (IntKind.i64.wrap (x9_54 + 1)) else none) else none) else (if (0 : Int) ≤ x9_54 ∧ x9_54 < (y3_3_82.length : Int) then (if (0 : Int) ≤ x10_77 ∧ x10_77 < (y1162_88.length : Int) then c2 y3_0_79 y3_1_80 y3_2_81 y3_3_82 y4_0_83 y4_1_84 y8_0_85 y8_1_86 y1082_87 (y1162_88.set (Int.toNat x10_77) (rd y3_3_82 x9_54)) (IntKind.i64.wrap (x9_54 + 1)) else none) else none)))
def watchbillref27_Take.l2 (k : Nat) : Nat → Str → Int → Bool → List T_api_Row → Bool → Int → Bool → Int → List T_api_Row → List T_api_Row → Int → Option (T_watchbillref27_Client × Int)
  | 0, _, _, _, _, _, _, _, _, _, _, _ => none
  | m76 + 1, y3_0_55, y3_1_56, y3_2_57, y3_3_58, y4_0_59, y4_1_60, y8_0_61, y8_1_62, y1082_63, y1162_64, x9_54 => (if (decide (x9_54 < (y3_3_58.length : Int))) = true then watchbillref27_Take.l3 k (watchbillref27_Take.l2 k m76) x9_54 k y3_0_55 y3_1_56 y3_2_57 y3_3_58 y4_0_59 y4_1_60 y8_0_61 y8_1_62 y1082_63 y1162_64 (-1) 0 else some ((T_watchbillref27_Client.mk y8_0_61 y8_1_62 y1162_64), 0))
def watchbillref27_Take.j4 (k : Nat) (y2_1_5 : Int) (y3_0_7 : Str) (y3_1_8 : Int) (y3_2_9 : Bool) (y3_3_10 : List T_api_Row) (y4_0_11 : Bool) (y4_1_12 : Int) (y1082_13 : List T_api_Row) (y1162_53 : List T_api_Row) : Option (T_watchbillref27_Client × Int) := watchbillref27_Take.l2 k k y3_0_7 y3_1_8 y3_2_9 y3_3_10 y4_0_11 y4_1_12 true (IntKind.u64.wrap (y2_1_5 + 1)) y1082_13 y1162_53 0
def watchbillref27_Take.l0 (k : Nat) : Nat → Bool → Int → List T_api_Row → Str → Int → Bool → List T_api_Row → Bool → Int → List T_api_Row → Int → Option (T_watchbillref27_Client × Int)
  | 0, _, _, _, _, _, _, _, _, _, _, _ => none
  | m25 + 1, y2_0_4, y2_1_5, y2_2_6, y3_0_7, y3_1_8, y3_2_9, y3_3_10, y4_0_11, y4_1_12, y1082_13, x6_3 => (if (decide (x6_3 < (y3_3_10.length : Int))) = true then watchbillref27_Take.l1 k (watchbillref27_Take.l0 k m25) x6_3 k y2_0_4 y2_1_5 y2_2_6 y3_0_7 y3_1_8 y3_2_9 y3_3_10 y4_0_11 y4_1_12 y1082_13 0 else (if (!y3_2_9) = true then (if (([] : List T_api_Row).length + y2_2_6.length) * 56 ≤ 140737488355328 then watchbillref27_Take.j4 k y2_1_5 y3_0_7 y3_1_8 y3_2_9 y3_3_10 y4_0_11 y4_1_12 y1082_13 (([] : List T_api_Row) ++ y2_2_6) else none) else watchbillref27_Take.j4 k y2_1_5 y3_0_7 y3_1_8 y3_2_9 y3_3_10 y4_0_11 y4_1_12 y1082_13 ([] : List T_api_Row)))
def watchbillref27_Take (k : Nat) (a0 : T_watchbillref27_Client) (a1 : T_api_Body) : Option (T_watchbillref27_Client × Int) := (if ((IntKind.u64.wrap a1.Version) != a0.Next) = true then some (a0, 49) else (if ((!a0.Begun) && (!a1.Full)) = true then some (a0, 8) else watchbillref27_Take.l0 k k a0.Begun a0.Next a0.Rows a1.List_ a1.Version a1.Full a1.Rows false 0 ([] : List T_api_Row) 0))
theorem watchbillref27_Take.ok {k : Nat} {a0 : T_watchbillref27_Client} {a1 : T_api_Body} {r : T_watchbillref27_Client × Int} (H : watchbillref27_Take k a0 a1 = some r) : Vx.Fn Try.prog 18 [(.agg (e_watchbillref27_Client a0)), (.agg (e_api_Body a1))] [] (.tup [(.agg (e_watchbillref27_Client r.1)), (.v (.int .i64 r.2))]) [] := by
  unfold watchbillref27_Take at H
  refine Vx.Fn.of_okR Try.func18 rfl (Nat.le_of_ble_eq_true rfl) ?_
  refine Ok.seq ?_
  refine Ok.region (σ' := ⟨[(2, (.bref 2 0)), (3, (.bref 3 0)), (4, (.bref 4 0))], [(2, (.box .ex [(.v (.bool a0.Begun)), (.v (.int .u64 a0.Next)), (L 4 e_api_Row a0.Rows)])), (3, (.box .ex [(S a1.List_), (.v (.int .u32 a1.Version)), (.v (.bool a1.Full)), (L 4 e_api_Row a1.Rows)])), (4, (.box .ex [(.v (.bool false)), (.v (.int .u64 0)), (.sref 1082)])), (1082, (.rows true 43 4 (([] : List T_api_Row).map e_api_Row)))]⟩) ?_ ?_
  · refine OpsOk.cons rfl (OpOk.box 2 (cells := [(.v (.bool a0.Begun)), (.v (.int .u64 a0.Next)), (L 4 e_api_Row a0.Rows)]) rfl rfl rfl rfl) ?_
    refine OpsOk.cons rfl (OpOk.box 3 (cells := [(S a1.List_), (.v (.int .u32 a1.Version)), (.v (.bool a1.Full)), (L 4 e_api_Row a1.Rows)]) rfl rfl rfl rfl) ?_
    refine OpsOk.cons rfl (OpOk.alloc 4 [none, none, none] rfl zo50 rfl rfl) ?_
    refine OpsOk.sle (SLe.adopt 4 1082 2 43 4 rfl rfl rfl rfl rfl) ?_
    refine OpsOk.cons rfl (.v (VOk.asg (d := (.v (.int .i64 0))) rfl rfl) rfl) ?_
    exact .done (.mk ⟨.same _, .same _, .same _, trivial⟩ ⟨.same _, .same _, .same _, .same _, trivial⟩)
  refine Ok.seq ?_
  refine Ok.seq ?_
  refine Ok.region (σ' := ⟨[(2, (.bref 2 0)), (3, (.bref 3 0)), (4, (.bref 4 0)), (17, (.v (.bool ((IntKind.u64.wrap a1.Version) != a0.Next))))], [(2, (.box .ex [(.v (.bool a0.Begun)), (.v (.int .u64 a0.Next)), (L 4 e_api_Row a0.Rows)])), (3, (.box .ex [(S a1.List_), (.v (.int .u32 a1.Version)), (.v (.bool a1.Full)), (L 4 e_api_Row a1.Rows)])), (4, (.box .ex [(.v (.bool false)), (.v (.int .u64 0)), (.sref 1082)])), (1082, (.rows true 43 4 (([] : List T_api_Row).map e_api_Row)))]⟩) ?_ ?_
  · refine OpsOk.cons rfl (.v (VOk.to (VOk.fieldB rfl Try.underlying34 rfl sz22 rfl rfl) rfl) rfl) ?_
    refine OpsOk.cons rfl (.v (VOk.loadB (d := (.v (.int .u32 a1.Version))) rfl Try.underlying22 rfl rfl rfl rfl) rfl) ?_
    refine OpsOk.cons rfl (.v (VOk.convInt (a := a1.Version) rfl (by rw [Try.underlying22]; rfl) Try.underlying48 rfl) rfl) ?_
    refine OpsOk.cons rfl (.v (VOk.to (VOk.fieldB rfl Try.underlying50 rfl sz48 rfl rfl) rfl) rfl) ?_
    refine OpsOk.cons rfl (.v (VOk.loadB (d := (.v (.int .u64 a0.Next))) rfl Try.underlying48 rfl rfl rfl rfl) rfl) ?_
    refine OpsOk.cons rfl (.v (VOk.arith (op := .neq) (k := .u64) (a := (IntKind.u64.wrap a1.Version)) (b := a0.Next) rfl rfl rfl rfl) rfl) ?_
    exact .done (.mk ⟨.same _, .same _, .same _, .same _, trivial⟩ ⟨.same _, .same _, .same _, .same _, trivial⟩)
  refine Ok.test (b := ((IntKind.u64.wrap a1.Version) != a0.Next)) rfl (fun hb116 => ?_) (fun hb116 => ?_)
  · replace H := ifT H hb116
    refine Ok.seq ?_
    refine Ok.region (σ' := ⟨[(4, (.bref 4 0)), (5, (.v (.int .i64 49)))], [(4, (.box .ex [(.v (.bool a0.Begun)), (.v (.int .u64 a0.Next)), (L 4 e_api_Row a0.Rows)]))]⟩) ?_ ?_
    · refine OpsOk.cons rfl (.v (VOk.to (d' := (.agg (e_watchbillref27_Client a0))) (.loadBAgg rfl Try.underlying50 rfl sz50 rfl rfl rfl) rfl) rfl) ?_
      refine OpsOk.cons rfl (OpOk.to (σ2 := St.put ⟨_, (4, (.box .ex [(.v (.bool a0.Begun)), (.v (.int .u64 a0.Next)), (L 4 e_api_Row a0.Rows)])) :: _⟩ _ .junk) (.storeB rfl sz50 rfl rfl rfl rfl rfl rfl) rfl) ?_
      refine OpsOk.cons rfl (.v (VOk.asg (d := (.v (.int .i64 49))) rfl rfl) rfl) ?_
      exact .done (.mk ⟨.same _, .same _, trivial⟩ ⟨.same _, trivial⟩)
    refine Ok.le (σ' := ⟨[(4, (.bref 4 0)), (5, (.v (.int .i64 49)))], [(4, (.box .ex [(.v (.bool a0.Begun)), (.v (.int .u64 a0.Next)), (L 4 e_api_Row a0.Rows)]))]⟩) (.mk ⟨.same _, .same _, trivial⟩ ⟨.same _, trivial⟩) ?_
    refine Ok.ret ?_
    obtain rfl := Option.some.inj H
    exact ⟨.inl rfl, ⟨_, (.cons (.cell (VOk.to (d' := (.agg (e_watchbillref27_Client a0))) (.loadBAgg rfl Try.underlying50 rfl sz50 rfl rfl rfl) rfl)) (.cons (.tmp rfl) .nil)), rfl⟩, trivial⟩
  · replace H := ifF H hb116
    refine Ok.le (σ' := ⟨[(2, (.bref 2 0)), (3, (.bref 3 0)), (4, (.bref 4 0))], [(2, (.box .ex [(.v (.bool a0.Begun)), (.v (.int .u64 a0.Next)), (L 4 e_api_Row a0.Rows)])), (3, (.box .ex [(S a1.List_), (.v (.int .u32 a1.Version)), (.v (.bool a1.Full)), (L 4 e_api_Row a1.Rows)])), (4, (.box .ex [(.v (.bool false)), (.v (.int .u64 0)), (.sref 1082)])), (1082, (.rows true 43 4 (([] : List T_api_Row).map e_api_Row)))]⟩) (.mk ⟨.same _, .same _, .same _, trivial⟩ ⟨.same _, .same _, .same _, .same _, trivial⟩) ?_
    refine Ok.skip ?_
    refine Ok.seq ?_
    refine Ok.seq ?_
    refine Ok.region (σ' := ⟨[(2, (.bref 2 0)), (3, (.bref 3 0)), (4, (.bref 4 0)), (26, (.v (.bool ((!a0.Begun) && (!a1.Full)))))], [(2, (.box .ex [(.v (.bool a0.Begun)), (.v (.int .u64 a0.Next)), (L 4 e_api_Row a0.Rows)])), (3, (.box .ex [(S a1.List_), (.v (.int .u32 a1.Version)), (.v (.bool a1.Full)), (L 4 e_api_Row a1.Rows)])), (4, (.box .ex [(.v (.bool false)), (.v (.int .u64 0)), (.sref 1082)])), (1082, (.rows true 43 4 (([] : List T_api_Row).map e_api_Row)))]⟩) ?_ ?_
    · refine OpsOk.cons rfl (.v (VOk.to (VOk.fieldB rfl Try.underlying50 rfl sz4 rfl rfl) rfl) rfl) ?_
      refine OpsOk.cons rfl (.v (VOk.loadB (d := (.v (.bool a0.Begun))) rfl Try.underlying4 rfl rfl rfl rfl) rfl) ?_
      refine OpsOk.cons rfl (.v (VOk.not (b := a0.Begun) rfl rfl) rfl) ?_
      refine OpsOk.cons rfl (.v (VOk.mv (d := (.v (.bool (!a0.Begun)))) rfl rfl) rfl) ?_
      refine OpsOk.consI rfl rfl rfl (.one rfl) rfl (fun hw1 => (VOk.g (VOk.to (VOk.fieldB rfl Try.underlying34 rfl sz4 rfl rfl) rfl))) ?_
      refine OpsOk.consI rfl rfl rfl (.one rfl) rfl (fun hw1 => (GOk.fr (fr' := [(23, (.bref 3 2))]) ⟨DLe.of_eq (cT hw1).symm, trivial⟩ (VOk.g (VOk.loadB (d := (.v (.bool a1.Full))) rfl Try.underlying4 rfl rfl rfl rfl)))) ?_
      refine OpsOk.consI rfl rfl rfl (.one rfl) rfl (fun hw1 => (GOk.fr (fr' := [(24, (.v (.bool a1.Full)))]) ⟨DLe.of_eq (cT hw1).symm, trivial⟩ (VOk.g (VOk.not (b := a1.Full) rfl rfl)))) ?_
      refine OpsOk.cons rfl (.v (VOk.to (VOk.pickI (b := (!a0.Begun)) (p := (!a1.Full)) (q := false) rfl rfl (fun hp2 => (cT (t_beq hp2))) (fun hp2 => rfl)) (pickAnd (!a0.Begun) (!a1.Full))) rfl) ?_
      exact .done (.mk ⟨.same _, .same _, .same _, .same _, trivial⟩ ⟨.same _, .same _, .same _, .same _, trivial⟩)
    refine Ok.test (b := ((!a0.Begun) && (!a1.Full))) rfl (fun hb115 => ?_) (fun hb115 => ?_)
    · replace H := ifT H hb115
      refine Ok.seq ?_
      refine Ok.region (σ' := ⟨[(4, (.bref 4 0)), (5, (.v (.int .i64 8)))], [(4, (.box .ex [(.v (.bool a0.Begun)), (.v (.int .u64 a0.Next)), (L 4 e_api_Row a0.Rows)]))]⟩) ?_ ?_
      · refine OpsOk.cons rfl (.v (VOk.to (d' := (.agg (e_watchbillref27_Client a0))) (.loadBAgg rfl Try.underlying50 rfl sz50 rfl rfl rfl) rfl) rfl) ?_
        refine OpsOk.cons rfl (OpOk.to (σ2 := St.put ⟨_, (4, (.box .ex [(.v (.bool a0.Begun)), (.v (.int .u64 a0.Next)), (L 4 e_api_Row a0.Rows)])) :: _⟩ _ .junk) (.storeB rfl sz50 rfl rfl rfl rfl rfl rfl) rfl) ?_
        refine OpsOk.cons rfl (.v (VOk.asg (d := (.v (.int .i64 8))) rfl rfl) rfl) ?_
        exact .done (.mk ⟨.same _, .same _, trivial⟩ ⟨.same _, trivial⟩)
      refine Ok.le (σ' := ⟨[(4, (.bref 4 0)), (5, (.v (.int .i64 8)))], [(4, (.box .ex [(.v (.bool a0.Begun)), (.v (.int .u64 a0.Next)), (L 4 e_api_Row a0.Rows)]))]⟩) (.mk ⟨.same _, .same _, trivial⟩ ⟨.same _, trivial⟩) ?_
      refine Ok.ret ?_
      obtain rfl := Option.some.inj H
      exact ⟨.inl rfl, ⟨_, (.cons (.cell (VOk.to (d' := (.agg (e_watchbillref27_Client a0))) (.loadBAgg rfl Try.underlying50 rfl sz50 rfl rfl rfl) rfl)) (.cons (.tmp rfl) .nil)), rfl⟩, trivial⟩
    · replace H := ifF H hb115
      refine Ok.le (σ' := ⟨[(2, (.bref 2 0)), (3, (.bref 3 0)), (4, (.bref 4 0))], [(2, (.box .ex [(.v (.bool a0.Begun)), (.v (.int .u64 a0.Next)), (L 4 e_api_Row a0.Rows)])), (3, (.box .ex [(S a1.List_), (.v (.int .u32 a1.Version)), (.v (.bool a1.Full)), (L 4 e_api_Row a1.Rows)])), (4, (.box .ex [(.v (.bool false)), (.v (.int .u64 0)), (.sref 1082)])), (1082, (.rows true 43 4 (([] : List T_api_Row).map e_api_Row)))]⟩) (.mk ⟨.same _, .same _, .same _, trivial⟩ ⟨.same _, .same _, .same _, .same _, trivial⟩) ?_
      refine Ok.skip ?_
      refine Ok.seq ?_
      refine Ok.seq ?_
      refine Ok.region (σ' := ⟨[(2, (.bref 2 0)), (3, (.bref 3 0)), (4, (.bref 4 0)), (6, (.v (.int .i64 0)))], [(2, (.box .ex [(.v (.bool a0.Begun)), (.v (.int .u64 a0.Next)), (L 4 e_api_Row a0.Rows)])), (3, (.box .ex [(S a1.List_), (.v (.int .u32 a1.Version)), (.v (.bool a1.Full)), (L 4 e_api_Row a1.Rows)])), (4, (.box .ex [(.v (.bool false)), (.v (.int .u64 0)), (.sref 1082)])), (1082, (.rows true 43 4 (([] : List T_api_Row).map e_api_Row)))]⟩) ?_ ?_
      · refine OpsOk.cons rfl (.v (VOk.asg (d := (.v (.int .i64 0))) rfl rfl) rfl) ?_
        exact .done (.mk ⟨.same _, .same _, .same _, .same _, trivial⟩ ⟨.same _, .same _, .same _, .same _, trivial⟩)
      refine Ok.block ?_
      refine Ok.le (σ' := ⟨[(2, (.bref 2 0)), (3, (.bref 3 0)), (4, (.bref 4 0)), (6, (.v (.int .i64 0)))], [(2, (.box .ex [(.v (.bool a0.Begun)), (.v (.int .u64 a0.Next)), (L 4 e_api_Row a0.Rows)])), (3, (.box .ex [(S a1.List_), (.v (.int .u32 a1.Version)), (.v (.bool a1.Full)), (L 4 e_api_Row a1.Rows)])), (4, (.box .ex [(.v (.bool false)), (.v (.int .u64 0)), (.sref 1082)])), (1082, (.rows true 43 4 (([] : List T_api_Row).map e_api_Row)))]⟩) (.mk ⟨.same _, .same _, .same _, .same _, trivial⟩ ⟨.same _, .same _, .same _, .same _, trivial⟩) ?_
      refine Ok.loop (fun m25 σ => ∃ (y2_0_4 : Bool) (y2_1_5 : Int) (y2_2_6 : List T_api_Row) (y3_0_7 : Str) (y3_1_8 : Int) (y3_2_9 : Bool) (y3_3_10 : List T_api_Row) (y4_0_11 : Bool) (y4_1_12 : Int) (y1082_13 : List T_api_Row) (x6_3 : Int), σ = ⟨[(2, (.bref 2 0)), (3, (.bref 3 0)), (4, (.bref 4 0)), (6, (.v (.int .i64 x6_3)))], [(2, (.box .ex [(.v (.bool y2_0_4)), (.v (.int .u64 y2_1_5)), (L 4 e_api_Row y2_2_6)])), (3, (.box .ex [(S y3_0_7), (.v (.int .u32 y3_1_8)), (.v (.bool y3_2_9)), (L 4 e_api_Row y3_3_10)])), (4, (.box .ex [(.v (.bool y4_0_11)), (.v (.int .u64 y4_1_12)), (.sref 1082)])), (1082, (.rows true 43 4 (y1082_13.map e_api_Row)))]⟩ ∧ watchbillref27_Take.l0 k m25 y2_0_4 y2_1_5 y2_2_6 y3_0_7 y3_1_8 y3_2_9 y3_3_10 y4_0_11 y4_1_12 y1082_13 x6_3 = some r) k ⟨a0.Begun, a0.Next, a0.Rows, a1.List_, a1.Version, a1.Full, a1.Rows, false, 0, ([] : List T_api_Row), 0, rfl, H⟩ ?_
      rintro m25 σ ⟨y2_0_4, y2_1_5, y2_2_6, y3_0_7, y3_1_8, y3_2_9, y3_3_10, y4_0_11, y4_1_12, y1082_13, x6_3, rfl, H⟩
      cases m25 with
      | zero => exact absurd H (by simp [watchbillref27_Take.l0])
      | succ m25 =>
        unfold watchbillref27_Take.l0 at H
        refine Ok.seq ?_
        refine Ok.seq ?_
        refine Ok.region (σ' := ⟨[(2, (.bref 2 0)), (3, (.bref 3 0)), (4, (.bref 4 0)), (6, (.v (.int .i64 x6_3))), (32, (.v (.bool (decide (x6_3 < (y3_3_10.length : Int))))))], [(2, (.box .ex [(.v (.bool y2_0_4)), (.v (.int .u64 y2_1_5)), (L 4 e_api_Row y2_2_6)])), (3, (.box .ex [(S y3_0_7), (.v (.int .u32 y3_1_8)), (.v (.bool y3_2_9)), (L 4 e_api_Row y3_3_10)])), (4, (.box .ex [(.v (.bool y4_0_11)), (.v (.int .u64 y4_1_12)), (.sref 1082)])), (1082, (.rows true 43 4 (y1082_13.map e_api_Row)))]⟩) ?_ ?_
        · refine OpsOk.cons rfl (.v (VOk.mv (d := (.v (.int .i64 x6_3))) rfl rfl) rfl) ?_
          refine OpsOk.cons rfl (.v (VOk.to (VOk.fieldB rfl Try.underlying34 rfl sz28 rfl rfl) rfl) rfl) ?_
          refine OpsOk.cons rfl (.v (VOk.loadB (d := (L 4 e_api_Row y3_3_10)) rfl Try.underlying28 rfl rfl rfl rfl) rfl) ?_
          refine OpsOk.cons rfl (.v (VOk.lenL (e := e_api_Row) (xs := y3_3_10) rfl Try.underlying28 rfl) rfl) ?_
          refine OpsOk.cons rfl (.v (VOk.arith (op := .lss) (k := .i64) (a := x6_3) (b := (y3_3_10.length : Int)) rfl rfl rfl rfl) rfl) ?_
          exact .done (.mk ⟨.same _, .same _, .same _, .same _, .same _, trivial⟩ ⟨.same _, .same _, .same _, .same _, trivial⟩)
        refine Ok.test (b := (decide (x6_3 < (y3_3_10.length : Int)))) rfl (fun hb114 => ?_) (fun hb114 => ?_)
        · replace H := ifT H hb114
          refine Ok.le (σ' := ⟨[(2, (.bref 2 0)), (3, (.bref 3 0)), (4, (.bref 4 0)), (6, (.v (.int .i64 x6_3)))], [(2, (.box .ex [(.v (.bool y2_0_4)), (.v (.int .u64 y2_1_5)), (L 4 e_api_Row y2_2_6)])), (3, (.box .ex [(S y3_0_7), (.v (.int .u32 y3_1_8)), (.v (.bool y3_2_9)), (L 4 e_api_Row y3_3_10)])), (4, (.box .ex [(.v (.bool y4_0_11)), (.v (.int .u64 y4_1_12)), (.sref 1082)])), (1082, (.rows true 43 4 (y1082_13.map e_api_Row)))]⟩) (.mk ⟨.same _, .same _, .same _, .same _, trivial⟩ ⟨.same _, .same _, .same _, .same _, trivial⟩) ?_
          refine Ok.skip ?_
          refine Ok.seq ?_
          refine Ok.block ?_
          refine Ok.seq ?_
          refine Ok.region (σ' := ⟨[(2, (.bref 2 0)), (3, (.bref 3 0)), (4, (.bref 4 0)), (6, (.v (.int .i64 x6_3))), (7, (.v (.int .i64 0)))], [(2, (.box .ex [(.v (.bool y2_0_4)), (.v (.int .u64 y2_1_5)), (L 4 e_api_Row y2_2_6)])), (3, (.box .ex [(S y3_0_7), (.v (.int .u32 y3_1_8)), (.v (.bool y3_2_9)), (L 4 e_api_Row y3_3_10)])), (4, (.box .ex [(.v (.bool y4_0_11)), (.v (.int .u64 y4_1_12)), (.sref 1082)])), (1082, (.rows true 43 4 (y1082_13.map e_api_Row)))]⟩) ?_ ?_
          · refine OpsOk.cons rfl (.v (VOk.asg (d := (.v (.int .i64 0))) rfl rfl) rfl) ?_
            exact .done (.mk ⟨.same _, .same _, .same _, .same _, .same _, trivial⟩ ⟨.same _, .same _, .same _, .same _, trivial⟩)
          refine Ok.block ?_
          refine Ok.le (σ' := ⟨[(2, (.bref 2 0)), (3, (.bref 3 0)), (4, (.bref 4 0)), (6, (.v (.int .i64 x6_3))), (7, (.v (.int .i64 0)))], [(2, (.box .ex [(.v (.bool y2_0_4)), (.v (.int .u64 y2_1_5)), (L 4 e_api_Row y2_2_6)])), (3, (.box .ex [(S y3_0_7), (.v (.int .u32 y3_1_8)), (.v (.bool y3_2_9)), (L 4 e_api_Row y3_3_10)])), (4, (.box .ex [(.v (.bool y4_0_11)), (.v (.int .u64 y4_1_12)), (.sref 1082)])), (1082, (.rows true 43 4 (y1082_13.map e_api_Row)))]⟩) (.mk ⟨.same _, .same _, .same _, .same _, .same _, trivial⟩ ⟨.same _, .same _, .same _, .same _, trivial⟩) ?_
          refine Ok.loop (fun m48 σ => ∃ (y2_0_27 : Bool) (y2_1_28 : Int) (y2_2_29 : List T_api_Row) (y3_0_30 : Str) (y3_1_31 : Int) (y3_2_32 : Bool) (y3_3_33 : List T_api_Row) (y4_0_34 : Bool) (y4_1_35 : Int) (y1082_36 : List T_api_Row) (x7_26 : Int), σ = ⟨[(2, (.bref 2 0)), (3, (.bref 3 0)), (4, (.bref 4 0)), (6, (.v (.int .i64 x6_3))), (7, (.v (.int .i64 x7_26)))], [(2, (.box .ex [(.v (.bool y2_0_27)), (.v (.int .u64 y2_1_28)), (L 4 e_api_Row y2_2_29)])), (3, (.box .ex [(S y3_0_30), (.v (.int .u32 y3_1_31)), (.v (.bool y3_2_32)), (L 4 e_api_Row y3_3_33)])), (4, (.box .ex [(.v (.bool y4_0_34)), (.v (.int .u64 y4_1_35)), (.sref 1082)])), (1082, (.rows true 43 4 (y1082_36.map e_api_Row)))]⟩ ∧ watchbillref27_Take.l1 k (watchbillref27_Take.l0 k m25) x6_3 m48 y2_0_27 y2_1_28 y2_2_29 y3_0_30 y3_1_31 y3_2_32 y3_3_33 y4_0_34 y4_1_35 y1082_36 x7_26 = some r) k ⟨y2_0_4, y2_1_5, y2_2_6, y3_0_7, y3_1_8, y3_2_9, y3_3_10, y4_0_11, y4_1_12, y1082_13, 0, rfl, H⟩ ?_
          rintro m48 σ ⟨y2_0_27, y2_1_28, y2_2_29, y3_0_30, y3_1_31, y3_2_32, y3_3_33, y4_0_34, y4_1_35, y1082_36, x7_26, rfl, H⟩
          cases m48 with
          | zero => exact absurd H (by simp [watchbillref27_Take.l1])
          | succ m48 =>
            unfold watchbillref27_Take.l1 at H
            refine Ok.seq ?_
            refine Ok.seq ?_
            refine Ok.region (σ' := ⟨[(2, (.bref 2 0)), (3, (.bref 3 0)), (4, (.bref 4 0)), (6, (.v (.int .i64 x6_3))), (7, (.v (.int .i64 x7_26))), (37, (.v (.bool (decide (x7_26 < x6_3)))))], [(2, (.box .ex [(.v (.bool y2_0_27)), (.v (.int .u64 y2_1_28)), (L 4 e_api_Row y2_2_29)])), (3, (.box .ex [(S y3_0_30), (.v (.int .u32 y3_1_31)), (.v (.bool y3_2_32)), (L 4 e_api_Row y3_3_33)])), (4, (.box .ex [(.v (.bool y4_0_34)), (.v (.int .u64 y4_1_35)), (.sref 1082)])), (1082, (.rows true 43 4 (y1082_36.map e_api_Row)))]⟩) ?_ ?_
            · refine OpsOk.cons rfl (.v (VOk.mv (d := (.v (.int .i64 x7_26))) rfl rfl) rfl) ?_
              refine OpsOk.cons rfl (.v (VOk.mv (d := (.v (.int .i64 x6_3))) rfl rfl) rfl) ?_
              refine OpsOk.cons rfl (.v (VOk.arith (op := .lss) (k := .i64) (a := x7_26) (b := x6_3) rfl rfl rfl rfl) rfl) ?_
              exact .done (.mk ⟨.same _, .same _, .same _, .same _, .same _, .same _, trivial⟩ ⟨.same _, .same _, .same _, .same _, trivial⟩)
            refine Ok.test (b := (decide (x7_26 < x6_3))) rfl (fun hb52 => ?_) (fun hb52 => ?_)
            · replace H := ifT H hb52
              refine Ok.le (σ' := ⟨[(2, (.bref 2 0)), (3, (.bref 3 0)), (4, (.bref 4 0)), (6, (.v (.int .i64 x6_3))), (7, (.v (.int .i64 x7_26)))], [(2, (.box .ex [(.v (.bool y2_0_27)), (.v (.int .u64 y2_1_28)), (L 4 e_api_Row y2_2_29)])), (3, (.box .ex [(S y3_0_30), (.v (.int .u32 y3_1_31)), (.v (.bool y3_2_32)), (L 4 e_api_Row y3_3_33)])), (4, (.box .ex [(.v (.bool y4_0_34)), (.v (.int .u64 y4_1_35)), (.sref 1082)])), (1082, (.rows true 43 4 (y1082_36.map e_api_Row)))]⟩) (.mk ⟨.same _, .same _, .same _, .same _, .same _, trivial⟩ ⟨.same _, .same _, .same _, .same _, trivial⟩) ?_
              refine Ok.skip ?_
              refine Ok.seq ?_
              refine Ok.block ?_
              refine Ok.seq ?_
              obtain ⟨c49, H⟩ := assertE H
              obtain ⟨c50, H⟩ := assertE H
              refine Ok.drawE (σ' := ⟨[(2, (.bref 2 0)), (3, (.bref 3 0)), (4, (.bref 4 0)), (6, (.v (.int .i64 x6_3))), (7, (.v (.int .i64 x7_26))), (52, (.v (.bool (((rd y3_3_33 x6_3).URI) == ((rd y3_3_33 x7_26).URI)))))], [(2, (.box .ex [(.v (.bool y2_0_27)), (.v (.int .u64 y2_1_28)), (L 4 e_api_Row y2_2_29)])), (3, (.box .ex [(S y3_0_30), (.v (.int .u32 y3_1_31)), (.v (.bool y3_2_32)), (L 4 e_api_Row y3_3_33)])), (4, (.box .ex [(.v (.bool y4_0_34)), (.v (.int .u64 y4_1_35)), (.sref 1082)])), (1082, (.rows true 43 4 (y1082_36.map e_api_Row)))]⟩) [⟨true, [(3, (.bref 3 0))], (.bref 3 3)⟩, ⟨true, [(40, (.bref 3 3))], (L 4 e_api_Row y3_3_33)⟩, ⟨true, [(6, (.v (.int .i64 x6_3)))], (.v (.int .i64 x6_3))⟩, ⟨true, [(41, (L 4 e_api_Row y3_3_33)), (42, (.v (.int .i64 x6_3)))], (.fp (e_api_Row (rd y3_3_33 x6_3)) 0)⟩, ⟨true, [(43, (.fp (e_api_Row (rd y3_3_33 x6_3)) 0))], (.fp (e_api_Row (rd y3_3_33 x6_3)) 0)⟩, ⟨true, [(44, (.fp (e_api_Row (rd y3_3_33 x6_3)) 0))], (S ((rd y3_3_33 x6_3).URI))⟩, ⟨true, [(3, (.bref 3 0))], (.bref 3 3)⟩, ⟨true, [(46, (.bref 3 3))], (L 4 e_api_Row y3_3_33)⟩, ⟨true, [(7, (.v (.int .i64 x7_26)))], (.v (.int .i64 x7_26))⟩, ⟨true, [(47, (L 4 e_api_Row y3_3_33)), (48, (.v (.int .i64 x7_26)))], (.fp (e_api_Row (rd y3_3_33 x7_26)) 0)⟩, ⟨true, [(49, (.fp (e_api_Row (rd y3_3_33 x7_26)) 0))], (.fp (e_api_Row (rd y3_3_33 x7_26)) 0)⟩, ⟨true, [(50, (.fp (e_api_Row (rd y3_3_33 x7_26)) 0))], (S ((rd y3_3_33 x7_26).URI))⟩, ⟨true, [(45, (S ((rd y3_3_33 x6_3).URI))), (51, (S ((rd y3_3_33 x7_26).URI)))], (.v (.bool (((rd y3_3_33 x6_3).URI) == ((rd y3_3_33 x7_26).URI))))⟩] [[], [0], [], [1, 2], [3], [4], [], [6], [], [7, 8], [9], [10], [5, 11]] mixed (by kernel_rfl) ?_ ?_
              · refine TxtE.cons rfl ⟨.same _, trivial⟩ rfl (VOk.g (VOk.to (VOk.fieldB rfl Try.underlying34 rfl sz28 rfl rfl) rfl)) ?_
                refine TxtE.cons rfl ⟨.same _, trivial⟩ rfl (VOk.g (VOk.loadB (d := (L 4 e_api_Row y3_3_33)) rfl Try.underlying28 rfl rfl rfl rfl)) ?_
                refine TxtE.cons rfl ⟨.same _, trivial⟩ rfl (VOk.g (VOk.mv (d := (.v (.int .i64 x6_3))) rfl rfl)) ?_
                refine TxtE.cons rfl ⟨.same _, .same _, trivial⟩ rfl (VOk.g (VOk.indexL (sz := 4) (e := e_api_Row) (xs := y3_3_33) (i := x6_3) rfl Try.underlying28 sz43 rfl rfl c49)) ?_
                refine TxtE.cons rfl ⟨.same _, trivial⟩ rfl (VOk.g (VOk.to (VOk.fieldFp rfl Try.underlying43 rfl sz9 rfl) rfl)) ?_
                refine TxtE.cons rfl ⟨.same _, trivial⟩ rfl (VOk.g (VOk.loadFp (d := (S ((rd y3_3_33 x6_3).URI))) rfl Try.underlying9 rfl rfl rfl)) ?_
                refine TxtE.cons rfl ⟨.same _, trivial⟩ rfl (VOk.g (VOk.to (VOk.fieldB rfl Try.underlying34 rfl sz28 rfl rfl) rfl)) ?_
                refine TxtE.cons rfl ⟨.same _, trivial⟩ rfl (VOk.g (VOk.loadB (d := (L 4 e_api_Row y3_3_33)) rfl Try.underlying28 rfl rfl rfl rfl)) ?_
                refine TxtE.cons rfl ⟨.same _, trivial⟩ rfl (VOk.g (VOk.mv (d := (.v (.int .i64 x7_26))) rfl rfl)) ?_
                refine TxtE.cons rfl ⟨.same _, .same _, trivial⟩ rfl (VOk.g (VOk.indexL (sz := 4) (e := e_api_Row) (xs := y3_3_33) (i := x7_26) rfl Try.underlying28 sz43 rfl rfl c50)) ?_
                refine TxtE.cons rfl ⟨.same _, trivial⟩ rfl (VOk.g (VOk.to (VOk.fieldFp rfl Try.underlying43 rfl sz9 rfl) rfl)) ?_
                refine TxtE.cons rfl ⟨.same _, trivial⟩ rfl (VOk.g (VOk.loadFp (d := (S ((rd y3_3_33 x7_26).URI))) rfl Try.underlying9 rfl rfl rfl)) ?_
                refine TxtE.cons rfl ⟨.same _, .same _, trivial⟩ rfl (VOk.g (VOk.strOp (op := .eql) (a := (rd y3_3_33 x6_3).URI) (b := (rd y3_3_33 x7_26).URI) rfl rfl rfl rfl)) ?_
                exact .done (.mk ⟨.same _, .same _, .same _, .same _, .same _, .same _, trivial⟩ ⟨.same _, .same _, .same _, .same _, trivial⟩)
              refine Ok.test (b := (((rd y3_3_33 x6_3).URI) == ((rd y3_3_33 x7_26).URI))) rfl (fun hb51 => ?_) (fun hb51 => ?_)
              · replace H := ifT H hb51
                refine Ok.seq ?_
                refine Ok.region (σ' := ⟨[(4, (.bref 4 0)), (5, (.v (.int .i64 35)))], [(4, (.box .ex [(.v (.bool ((T_watchbillref27_Client.mk y2_0_27 y2_1_28 y2_2_29).Begun))), (.v (.int .u64 ((T_watchbillref27_Client.mk y2_0_27 y2_1_28 y2_2_29).Next))), (L 4 e_api_Row ((T_watchbillref27_Client.mk y2_0_27 y2_1_28 y2_2_29).Rows))]))]⟩) ?_ ?_
                · refine OpsOk.cons rfl (.v (VOk.to (d' := (.agg (e_watchbillref27_Client (T_watchbillref27_Client.mk y2_0_27 y2_1_28 y2_2_29)))) (.loadBAgg rfl Try.underlying50 rfl sz50 rfl rfl rfl) rfl) rfl) ?_
                  refine OpsOk.cons rfl (OpOk.to (σ2 := St.put ⟨_, (4, (.box .ex [(.v (.bool ((T_watchbillref27_Client.mk y2_0_27 y2_1_28 y2_2_29).Begun))), (.v (.int .u64 ((T_watchbillref27_Client.mk y2_0_27 y2_1_28 y2_2_29).Next))), (L 4 e_api_Row ((T_watchbillref27_Client.mk y2_0_27 y2_1_28 y2_2_29).Rows))])) :: _⟩ _ .junk) (.storeB rfl sz50 rfl rfl rfl rfl rfl rfl) rfl) ?_
                  refine OpsOk.cons rfl (.v (VOk.asg (d := (.v (.int .i64 35))) rfl rfl) rfl) ?_
                  exact .done (.mk ⟨.same _, .same _, trivial⟩ ⟨.same _, trivial⟩)
                refine Ok.le (σ' := ⟨[(4, (.bref 4 0)), (5, (.v (.int .i64 35)))], [(4, (.box .ex [(.v (.bool ((T_watchbillref27_Client.mk y2_0_27 y2_1_28 y2_2_29).Begun))), (.v (.int .u64 ((T_watchbillref27_Client.mk y2_0_27 y2_1_28 y2_2_29).Next))), (L 4 e_api_Row ((T_watchbillref27_Client.mk y2_0_27 y2_1_28 y2_2_29).Rows))]))]⟩) (.mk ⟨.same _, .same _, trivial⟩ ⟨.same _, trivial⟩) ?_
                refine Ok.ret ?_
                obtain rfl := Option.some.inj H
                exact ⟨.inl rfl, ⟨_, (.cons (.cell (VOk.to (d' := (.agg (e_watchbillref27_Client (T_watchbillref27_Client.mk y2_0_27 y2_1_28 y2_2_29)))) (.loadBAgg rfl Try.underlying50 rfl sz50 rfl rfl rfl) rfl)) (.cons (.tmp rfl) .nil)), rfl⟩, trivial⟩
              · replace H := ifF H hb51
                refine Ok.le (σ' := ⟨[(2, (.bref 2 0)), (3, (.bref 3 0)), (4, (.bref 4 0)), (6, (.v (.int .i64 x6_3))), (7, (.v (.int .i64 x7_26)))], [(2, (.box .ex [(.v (.bool y2_0_27)), (.v (.int .u64 y2_1_28)), (L 4 e_api_Row y2_2_29)])), (3, (.box .ex [(S y3_0_30), (.v (.int .u32 y3_1_31)), (.v (.bool y3_2_32)), (L 4 e_api_Row y3_3_33)])), (4, (.box .ex [(.v (.bool y4_0_34)), (.v (.int .u64 y4_1_35)), (.sref 1082)])), (1082, (.rows true 43 4 (y1082_36.map e_api_Row)))]⟩) (.mk ⟨.same _, .same _, .same _, .same _, .same _, trivial⟩ ⟨.same _, .same _, .same _, .same _, trivial⟩) ?_
                refine Ok.skip ?_
                refine Ok.region (σ' := ⟨[(2, (.bref 2 0)), (3, (.bref 3 0)), (4, (.bref 4 0)), (6, (.v (.int .i64 x6_3))), (7, (.v (.int .i64 (IntKind.i64.wrap (x7_26 + 1)))))], [(2, (.box .ex [(.v (.bool y2_0_27)), (.v (.int .u64 y2_1_28)), (L 4 e_api_Row y2_2_29)])), (3, (.box .ex [(S y3_0_30), (.v (.int .u32 y3_1_31)), (.v (.bool y3_2_32)), (L 4 e_api_Row y3_3_33)])), (4, (.box .ex [(.v (.bool y4_0_34)), (.v (.int .u64 y4_1_35)), (.sref 1082)])), (1082, (.rows true 43 4 (y1082_36.map e_api_Row)))]⟩) ?_ ?_
                · refine OpsOk.cons rfl (.v (VOk.mv (d := (.v (.int .i64 x7_26))) rfl rfl) rfl) ?_
                  refine OpsOk.cons rfl (.v (VOk.arith (op := .add) (k := .i64) (a := x7_26) (b := 1) rfl rfl rfl rfl) rfl) ?_
                  refine OpsOk.cons rfl (.v (VOk.asg (d := (.v (.int .i64 (IntKind.i64.wrap (x7_26 + 1))))) rfl rfl) rfl) ?_
                  exact .done (.mk ⟨.same _, .same _, .same _, .same _, .same _, trivial⟩ ⟨.same _, .same _, .same _, .same _, trivial⟩)
                exact ⟨m48, Nat.lt_succ_self m48, y2_0_27, y2_1_28, y2_2_29, y3_0_30, y3_1_31, y3_2_32, y3_3_33, y4_0_34, y4_1_35, y1082_36, (IntKind.i64.wrap (x7_26 + 1)), rfl, H⟩
            · replace H := ifF H hb52
              refine Ok.le (σ' := ⟨[(2, (.bref 2 0)), (3, (.bref 3 0)), (4, (.bref 4 0)), (6, (.v (.int .i64 x6_3)))], [(2, (.box .ex [(.v (.bool y2_0_27)), (.v (.int .u64 y2_1_28)), (L 4 e_api_Row y2_2_29)])), (3, (.box .ex [(S y3_0_30), (.v (.int .u32 y3_1_31)), (.v (.bool y3_2_32)), (L 4 e_api_Row y3_3_33)])), (4, (.box .ex [(.v (.bool y4_0_34)), (.v (.int .u64 y4_1_35)), (.sref 1082)])), (1082, (.rows true 43 4 (y1082_36.map e_api_Row)))]⟩) (.mk ⟨.same _, .same _, .same _, .same _, trivial⟩ ⟨.same _, .same _, .same _, .same _, trivial⟩) ?_
              refine Ok.exit ?_
              refine Ok.region (σ' := ⟨[(2, (.bref 2 0)), (3, (.bref 3 0)), (4, (.bref 4 0)), (6, (.v (.int .i64 (IntKind.i64.wrap (x6_3 + 1)))))], [(2, (.box .ex [(.v (.bool y2_0_27)), (.v (.int .u64 y2_1_28)), (L 4 e_api_Row y2_2_29)])), (3, (.box .ex [(S y3_0_30), (.v (.int .u32 y3_1_31)), (.v (.bool y3_2_32)), (L 4 e_api_Row y3_3_33)])), (4, (.box .ex [(.v (.bool y4_0_34)), (.v (.int .u64 y4_1_35)), (.sref 1082)])), (1082, (.rows true 43 4 (y1082_36.map e_api_Row)))]⟩) ?_ ?_
              · refine OpsOk.cons rfl (.v (VOk.mv (d := (.v (.int .i64 x6_3))) rfl rfl) rfl) ?_
                refine OpsOk.cons rfl (.v (VOk.arith (op := .add) (k := .i64) (a := x6_3) (b := 1) rfl rfl rfl rfl) rfl) ?_
                refine OpsOk.cons rfl (.v (VOk.asg (d := (.v (.int .i64 (IntKind.i64.wrap (x6_3 + 1))))) rfl rfl) rfl) ?_
                exact .done (.mk ⟨.same _, .same _, .same _, .same _, trivial⟩ ⟨.same _, .same _, .same _, .same _, trivial⟩)
              exact ⟨m25, Nat.lt_succ_self m25, y2_0_27, y2_1_28, y2_2_29, y3_0_30, y3_1_31, y3_2_32, y3_3_33, y4_0_34, y4_1_35, y1082_36, (IntKind.i64.wrap (x6_3 + 1)), rfl, H⟩
        · replace H := ifF H hb114
          refine Ok.le (σ' := ⟨[(2, (.bref 2 0)), (3, (.bref 3 0)), (4, (.bref 4 0))], [(2, (.box .ex [(.v (.bool y2_0_4)), (.v (.int .u64 y2_1_5)), (L 4 e_api_Row y2_2_6)])), (3, (.box .ex [(S y3_0_7), (.v (.int .u32 y3_1_8)), (.v (.bool y3_2_9)), (L 4 e_api_Row y3_3_10)])), (4, (.box .ex [(.v (.bool y4_0_11)), (.v (.int .u64 y4_1_12)), (.sref 1082)])), (1082, (.rows true 43 4 (y1082_13.map e_api_Row)))]⟩) (.mk ⟨.same _, .same _, .same _, trivial⟩ ⟨.same _, .same _, .same _, .same _, trivial⟩) ?_
          refine Ok.exit ?_
          refine Ok.seq ?_
          refine Ok.region (σ' := ⟨[(2, (.bref 2 0)), (3, (.bref 3 0)), (4, (.bref 4 0)), (8, (.bref 8 0))], [(2, (.box .ex [(.v (.bool y2_0_4)), (.v (.int .u64 y2_1_5)), (L 4 e_api_Row y2_2_6)])), (3, (.box .ex [(S y3_0_7), (.v (.int .u32 y3_1_8)), (.v (.bool y3_2_9)), (L 4 e_api_Row y3_3_10)])), (4, (.box .ex [(.v (.bool y4_0_11)), (.v (.int .u64 y4_1_12)), (.sref 1082)])), (8, (.box .ex [(.v (.bool true)), (.v (.int .u64 (IntKind.u64.wrap (y2_1_5 + 1)))), (.sref 1162)])), (1082, (.rows true 43 4 (y1082_13.map e_api_Row))), (1162, (.rows true 43 4 (([] : List T_api_Row).map e_api_Row)))]⟩) ?_ ?_
          · refine OpsOk.cons rfl (.v (VOk.to (VOk.fieldB rfl Try.underlying50 rfl sz48 rfl rfl) rfl) rfl) ?_
            refine OpsOk.cons rfl (.v (VOk.loadB (d := (.v (.int .u64 y2_1_5))) rfl Try.underlying48 rfl rfl rfl rfl) rfl) ?_
            refine OpsOk.cons rfl (.v (VOk.arith (op := .add) (k := .u64) (a := y2_1_5) (b := 1) rfl rfl rfl rfl) rfl) ?_
            refine OpsOk.cons rfl (.v (VOk.to (d' := (.agg [(.v (.bool true)), (.v (.int .u64 (IntKind.u64.wrap (y2_1_5 + 1)))), (.v (.slice none 0 0))])) (.build [none, none, some 4] [(0, 1), (1, 1), (2, 1)] rfl Try.underlying50 (fa50 Try.underlying50) zo50 rfl rfl) rfl) rfl) ?_
            refine OpsOk.cons rfl (OpOk.alloc 8 [none, none, none] rfl zo50 rfl rfl) ?_
            refine OpsOk.sle (SLe.adopt 8 1162 2 43 4 rfl rfl rfl rfl rfl) ?_
            refine OpsOk.cons rfl (OpOk.to (σ2 := St.put ⟨_, (8, (.box .ex [(.v (.bool true)), (.v (.int .u64 (IntKind.u64.wrap (y2_1_5 + 1)))), (.v (.slice none 0 0))])) :: _⟩ _ .junk) (.storeB rfl sz50 rfl rfl rfl rfl rfl rfl) rfl) ?_
            refine OpsOk.sle (SLe.adopt 8 1162 2 43 4 rfl rfl rfl rfl rfl) ?_
            exact .done (.mk ⟨.same _, .same _, .same _, .same _, trivial⟩ ⟨.same _, .same _, .same _, .same _, .same _, .same _, trivial⟩)
          refine Ok.meet (fun σ => ∃ (y1162_53 : List T_api_Row), σ = ⟨[(3, (.bref 3 0)), (4, (.bref 4 0)), (8, (.bref 8 0))], [(3, (.box .ex [(S y3_0_7), (.v (.int .u32 y3_1_8)), (.v (.bool y3_2_9)), (L 4 e_api_Row y3_3_10)])), (4, (.box .ex [(.v (.bool y4_0_11)), (.v (.int .u64 y4_1_12)), (.sref 1082)])), (8, (.box .ex [(.v (.bool true)), (.v (.int .u64 (IntKind.u64.wrap (y2_1_5 + 1)))), (.sref 1162)])), (1082, (.rows true 43 4 (y1082_13.map e_api_Row))), (1162, (.rows true 43 4 (y1162_53.map e_api_Row)))]⟩ ∧ watchbillref27_Take.j4 k y2_1_5 y3_0_7 y3_1_8 y3_2_9 y3_3_10 y4_0_11 y4_1_12 y1082_13 y1162_53 = some r) ?_ ?_
          · refine Ok.seq ?_
            refine Ok.region (σ' := ⟨[(2, (.bref 2 0)), (3, (.bref 3 0)), (4, (.bref 4 0)), (8, (.bref 8 0)), (60, (.v (.bool (!y3_2_9))))], [(2, (.box .ex [(.v (.bool y2_0_4)), (.v (.int .u64 y2_1_5)), (L 4 e_api_Row y2_2_6)])), (3, (.box .ex [(S y3_0_7), (.v (.int .u32 y3_1_8)), (.v (.bool y3_2_9)), (L 4 e_api_Row y3_3_10)])), (4, (.box .ex [(.v (.bool y4_0_11)), (.v (.int .u64 y4_1_12)), (.sref 1082)])), (8, (.box .ex [(.v (.bool true)), (.v (.int .u64 (IntKind.u64.wrap (y2_1_5 + 1)))), (.sref 1162)])), (1082, (.rows true 43 4 (y1082_13.map e_api_Row))), (1162, (.rows true 43 4 (([] : List T_api_Row).map e_api_Row)))]⟩) ?_ ?_
            · refine OpsOk.cons rfl (.v (VOk.to (VOk.fieldB rfl Try.underlying34 rfl sz4 rfl rfl) rfl) rfl) ?_
              refine OpsOk.cons rfl (.v (VOk.loadB (d := (.v (.bool y3_2_9))) rfl Try.underlying4 rfl rfl rfl rfl) rfl) ?_
              refine OpsOk.cons rfl (.v (VOk.not (b := y3_2_9) rfl rfl) rfl) ?_
              exact .done (.mk ⟨.same _, .same _, .same _, .same _, .same _, trivial⟩ ⟨.same _, .same _, .same _, .same _, .same _, .same _, trivial⟩)
            refine Ok.test (b := (!y3_2_9)) rfl (fun hb113 => ?_) (fun hb113 => ?_)
            · replace H := ifT H hb113
              obtain ⟨c112, H⟩ := assertE H
              refine Ok.region (σ' := ⟨[(3, (.bref 3 0)), (4, (.bref 4 0)), (8, (.bref 8 0))], [(3, (.box .ex [(S y3_0_7), (.v (.int .u32 y3_1_8)), (.v (.bool y3_2_9)), (L 4 e_api_Row y3_3_10)])), (4, (.box .ex [(.v (.bool y4_0_11)), (.v (.int .u64 y4_1_12)), (.sref 1082)])), (8, (.box .ex [(.v (.bool true)), (.v (.int .u64 (IntKind.u64.wrap (y2_1_5 + 1)))), (.sref 1162)])), (1082, (.rows true 43 4 (y1082_13.map e_api_Row))), (1162, (.rows true 43 4 ((([] : List T_api_Row) ++ y2_2_6).map e_api_Row)))]⟩) ?_ ?_
              · refine OpsOk.cons rfl (.v (VOk.to (VOk.fieldB rfl Try.underlying50 rfl sz28 rfl rfl) rfl) rfl) ?_
                refine OpsOk.cons rfl (.v (VOk.loadB (d := (.sref 1162)) rfl Try.underlying28 rfl rfl rfl rfl) rfl) ?_
                refine OpsOk.cons rfl (.v (VOk.to (VOk.fieldB rfl Try.underlying50 rfl sz28 rfl rfl) rfl) rfl) ?_
                refine OpsOk.cons rfl (.v (VOk.loadB (d := (L 4 e_api_Row y2_2_6)) rfl Try.underlying28 rfl rfl rfl rfl) rfl) ?_
                refine OpsOk.cons rfl (OpOk.appendL (e := e_api_Row) (xs := ([] : List T_api_Row)) (ys := y2_2_6) rfl Try.underlying28 elt43 rfl rfl rfl c112 rfl) ?_
                refine OpsOk.cons rfl (.v (VOk.to (VOk.fieldB rfl Try.underlying50 rfl sz28 rfl rfl) rfl) rfl) ?_
                refine OpsOk.cons rfl (OpOk.to (σ2 := St.put ⟨_, (8, (.box .ex [(.v (.bool true)), (.v (.int .u64 (IntKind.u64.wrap (y2_1_5 + 1)))), (.sref 1162)])) :: _⟩ _ .junk) (.storeB rfl sz28 rfl rfl rfl rfl rfl rfl) rfl) ?_
                exact .done (.mk ⟨.same _, .same _, .same _, trivial⟩ ⟨.same _, .same _, .same _, .same _, .same _, trivial⟩)
              exact ⟨(([] : List T_api_Row) ++ y2_2_6), rfl, H⟩
            · replace H := ifF H hb113
              refine Ok.le (σ' := ⟨[(3, (.bref 3 0)), (4, (.bref 4 0)), (8, (.bref 8 0))], [(3, (.box .ex [(S y3_0_7), (.v (.int .u32 y3_1_8)), (.v (.bool y3_2_9)), (L 4 e_api_Row y3_3_10)])), (4, (.box .ex [(.v (.bool y4_0_11)), (.v (.int .u64 y4_1_12)), (.sref 1082)])), (8, (.box .ex [(.v (.bool true)), (.v (.int .u64 (IntKind.u64.wrap (y2_1_5 + 1)))), (.sref 1162)])), (1082, (.rows true 43 4 (y1082_13.map e_api_Row))), (1162, (.rows true 43 4 (([] : List T_api_Row).map e_api_Row)))]⟩) (.mk ⟨.same _, .same _, .same _, trivial⟩ ⟨.same _, .same _, .same _, .same _, .same _, trivial⟩) ?_
              refine Ok.skip ?_
              exact ⟨([] : List T_api_Row), rfl, H⟩
          · rintro σ ⟨y1162_53, rfl, H⟩
            unfold watchbillref27_Take.j4 at H
            refine Ok.seq ?_
            refine Ok.seq ?_
            refine Ok.region (σ' := ⟨[(3, (.bref 3 0)), (4, (.bref 4 0)), (8, (.bref 8 0)), (9, (.v (.int .i64 0)))], [(3, (.box .ex [(S y3_0_7), (.v (.int .u32 y3_1_8)), (.v (.bool y3_2_9)), (L 4 e_api_Row y3_3_10)])), (4, (.box .ex [(.v (.bool y4_0_11)), (.v (.int .u64 y4_1_12)), (.sref 1082)])), (8, (.box .ex [(.v (.bool true)), (.v (.int .u64 (IntKind.u64.wrap (y2_1_5 + 1)))), (.sref 1162)])), (1082, (.rows true 43 4 (y1082_13.map e_api_Row))), (1162, (.rows true 43 4 (y1162_53.map e_api_Row)))]⟩) ?_ ?_
            · refine OpsOk.cons rfl (.v (VOk.asg (d := (.v (.int .i64 0))) rfl rfl) rfl) ?_
              exact .done (.mk ⟨.same _, .same _, .same _, .same _, trivial⟩ ⟨.same _, .same _, .same _, .same _, .same _, trivial⟩)
            refine Ok.block ?_
            refine Ok.le (σ' := ⟨[(3, (.bref 3 0)), (4, (.bref 4 0)), (8, (.bref 8 0)), (9, (.v (.int .i64 0)))], [(3, (.box .ex [(S y3_0_7), (.v (.int .u32 y3_1_8)), (.v (.bool y3_2_9)), (L 4 e_api_Row y3_3_10)])), (4, (.box .ex [(.v (.bool y4_0_11)), (.v (.int .u64 y4_1_12)), (.sref 1082)])), (8, (.box .ex [(.v (.bool true)), (.v (.int .u64 (IntKind.u64.wrap (y2_1_5 + 1)))), (.sref 1162)])), (1082, (.rows true 43 4 (y1082_13.map e_api_Row))), (1162, (.rows true 43 4 (y1162_53.map e_api_Row)))]⟩) (.mk ⟨.same _, .same _, .same _, .same _, trivial⟩ ⟨.same _, .same _, .same _, .same _, .same _, trivial⟩) ?_
            refine Ok.loop (fun m76 σ => ∃ (y3_0_55 : Str) (y3_1_56 : Int) (y3_2_57 : Bool) (y3_3_58 : List T_api_Row) (y4_0_59 : Bool) (y4_1_60 : Int) (y8_0_61 : Bool) (y8_1_62 : Int) (y1082_63 : List T_api_Row) (y1162_64 : List T_api_Row) (x9_54 : Int), σ = ⟨[(3, (.bref 3 0)), (4, (.bref 4 0)), (8, (.bref 8 0)), (9, (.v (.int .i64 x9_54)))], [(3, (.box .ex [(S y3_0_55), (.v (.int .u32 y3_1_56)), (.v (.bool y3_2_57)), (L 4 e_api_Row y3_3_58)])), (4, (.box .ex [(.v (.bool y4_0_59)), (.v (.int .u64 y4_1_60)), (.sref 1082)])), (8, (.box .ex [(.v (.bool y8_0_61)), (.v (.int .u64 y8_1_62)), (.sref 1162)])), (1082, (.rows true 43 4 (y1082_63.map e_api_Row))), (1162, (.rows true 43 4 (y1162_64.map e_api_Row)))]⟩ ∧ watchbillref27_Take.l2 k m76 y3_0_55 y3_1_56 y3_2_57 y3_3_58 y4_0_59 y4_1_60 y8_0_61 y8_1_62 y1082_63 y1162_64 x9_54 = some r) k ⟨y3_0_7, y3_1_8, y3_2_9, y3_3_10, y4_0_11, y4_1_12, true, (IntKind.u64.wrap (y2_1_5 + 1)), y1082_13, y1162_53, 0, rfl, H⟩ ?_
            rintro m76 σ ⟨y3_0_55, y3_1_56, y3_2_57, y3_3_58, y4_0_59, y4_1_60, y8_0_61, y8_1_62, y1082_63, y1162_64, x9_54, rfl, H⟩
            cases m76 with
            | zero => exact absurd H (by simp [watchbillref27_Take.l2])
            | succ m76 =>
              unfold watchbillref27_Take.l2 at H
              refine Ok.seq ?_
              refine Ok.seq ?_
              refine Ok.region (σ' := ⟨[(3, (.bref 3 0)), (4, (.bref 4 0)), (8, (.bref 8 0)), (9, (.v (.int .i64 x9_54))), (71, (.v (.bool (decide (x9_54 < (y3_3_58.length : Int))))))], [(3, (.box .ex [(S y3_0_55), (.v (.int .u32 y3_1_56)), (.v (.bool y3_2_57)), (L 4 e_api_Row y3_3_58)])), (4, (.box .ex [(.v (.bool y4_0_59)), (.v (.int .u64 y4_1_60)), (.sref 1082)])), (8, (.box .ex [(.v (.bool y8_0_61)), (.v (.int .u64 y8_1_62)), (.sref 1162)])), (1082, (.rows true 43 4 (y1082_63.map e_api_Row))), (1162, (.rows true 43 4 (y1162_64.map e_api_Row)))]⟩) ?_ ?_
              · refine OpsOk.cons rfl (.v (VOk.mv (d := (.v (.int .i64 x9_54))) rfl rfl) rfl) ?_
                refine OpsOk.cons rfl (.v (VOk.to (VOk.fieldB rfl Try.underlying34 rfl sz28 rfl rfl) rfl) rfl) ?_
                refine OpsOk.cons rfl (.v (VOk.loadB (d := (L 4 e_api_Row y3_3_58)) rfl Try.underlying28 rfl rfl rfl rfl) rfl) ?_
                refine OpsOk.cons rfl (.v (VOk.lenL (e := e_api_Row) (xs := y3_3_58) rfl Try.underlying28 rfl) rfl) ?_
                refine OpsOk.cons rfl (.v (VOk.arith (op := .lss) (k := .i64) (a := x9_54) (b := (y3_3_58.length : Int)) rfl rfl rfl rfl) rfl) ?_
                exact .done (.mk ⟨.same _, .same _, .same _, .same _, .same _, trivial⟩ ⟨.same _, .same _, .same _, .same _, .same _, trivial⟩)
              refine Ok.test (b := (decide (x9_54 < (y3_3_58.length : Int)))) rfl (fun hb111 => ?_) (fun hb111 => ?_)
              · replace H := ifT H hb111
                refine Ok.le (σ' := ⟨[(3, (.bref 3 0)), (4, (.bref 4 0)), (8, (.bref 8 0)), (9, (.v (.int .i64 x9_54)))], [(3, (.box .ex [(S y3_0_55), (.v (.int .u32 y3_1_56)), (.v (.bool y3_2_57)), (L 4 e_api_Row y3_3_58)])), (4, (.box .ex [(.v (.bool y4_0_59)), (.v (.int .u64 y4_1_60)), (.sref 1082)])), (8, (.box .ex [(.v (.bool y8_0_61)), (.v (.int .u64 y8_1_62)), (.sref 1162)])), (1082, (.rows true 43 4 (y1082_63.map e_api_Row))), (1162, (.rows true 43 4 (y1162_64.map e_api_Row)))]⟩) (.mk ⟨.same _, .same _, .same _, .same _, trivial⟩ ⟨.same _, .same _, .same _, .same _, .same _, trivial⟩) ?_
                refine Ok.skip ?_
                refine Ok.seq ?_
                refine Ok.block ?_
                refine Ok.seq ?_
                refine Ok.region (σ' := ⟨[(3, (.bref 3 0)), (4, (.bref 4 0)), (8, (.bref 8 0)), (9, (.v (.int .i64 x9_54))), (10, (.v (.int .i64 (-1))))], [(3, (.box .ex [(S y3_0_55), (.v (.int .u32 y3_1_56)), (.v (.bool y3_2_57)), (L 4 e_api_Row y3_3_58)])), (4, (.box .ex [(.v (.bool y4_0_59)), (.v (.int .u64 y4_1_60)), (.sref 1082)])), (8, (.box .ex [(.v (.bool y8_0_61)), (.v (.int .u64 y8_1_62)), (.sref 1162)])), (1082, (.rows true 43 4 (y1082_63.map e_api_Row))), (1162, (.rows true 43 4 (y1162_64.map e_api_Row)))]⟩) ?_ ?_
                · refine OpsOk.cons rfl (.v (VOk.asg (d := (.v (.int .i64 (-1)))) rfl rfl) rfl) ?_
                  exact .done (.mk ⟨.same _, .same _, .same _, .same _, .same _, trivial⟩ ⟨.same _, .same _, .same _, .same _, .same _, trivial⟩)
                refine Ok.seq ?_
                refine Ok.seq ?_
                refine Ok.region (σ' := ⟨[(3, (.bref 3 0)), (4, (.bref 4 0)), (8, (.bref 8 0)), (9, (.v (.int .i64 x9_54))), (10, (.v (.int .i64 (-1)))), (11, (.v (.int .i64 0)))], [(3, (.box .ex [(S y3_0_55), (.v (.int .u32 y3_1_56)), (.v (.bool y3_2_57)), (L 4 e_api_Row y3_3_58)])), (4, (.box .ex [(.v (.bool y4_0_59)), (.v (.int .u64 y4_1_60)), (.sref 1082)])), (8, (.box .ex [(.v (.bool y8_0_61)), (.v (.int .u64 y8_1_62)), (.sref 1162)])), (1082, (.rows true 43 4 (y1082_63.map e_api_Row))), (1162, (.rows true 43 4 (y1162_64.map e_api_Row)))]⟩) ?_ ?_
                · refine OpsOk.cons rfl (.v (VOk.asg (d := (.v (.int .i64 0))) rfl rfl) rfl) ?_
                  exact .done (.mk ⟨.same _, .same _, .same _, .same _, .same _, .same _, trivial⟩ ⟨.same _, .same _, .same _, .same _, .same _, trivial⟩)
                refine Ok.block ?_
                refine Ok.le (σ' := ⟨[(3, (.bref 3 0)), (4, (.bref 4 0)), (8, (.bref 8 0)), (9, (.v (.int .i64 x9_54))), (10, (.v (.int .i64 (-1)))), (11, (.v (.int .i64 0)))], [(3, (.box .ex [(S y3_0_55), (.v (.int .u32 y3_1_56)), (.v (.bool y3_2_57)), (L 4 e_api_Row y3_3_58)])), (4, (.box .ex [(.v (.bool y4_0_59)), (.v (.int .u64 y4_1_60)), (.sref 1082)])), (8, (.box .ex [(.v (.bool y8_0_61)), (.v (.int .u64 y8_1_62)), (.sref 1162)])), (1082, (.rows true 43 4 (y1082_63.map e_api_Row))), (1162, (.rows true 43 4 (y1162_64.map e_api_Row)))]⟩) (.mk ⟨.same _, .same _, .same _, .same _, .same _, .same _, trivial⟩ ⟨.same _, .same _, .same _, .same _, .same _, trivial⟩) ?_
                refine Ok.loop (fun m101 σ => ∃ (y3_0_79 : Str) (y3_1_80 : Int) (y3_2_81 : Bool) (y3_3_82 : List T_api_Row) (y4_0_83 : Bool) (y4_1_84 : Int) (y8_0_85 : Bool) (y8_1_86 : Int) (y1082_87 : List T_api_Row) (y1162_88 : List T_api_Row) (x10_77 : Int) (x11_78 : Int), σ = ⟨[(3, (.bref 3 0)), (4, (.bref 4 0)), (8, (.bref 8 0)), (9, (.v (.int .i64 x9_54))), (10, (.v (.int .i64 x10_77))), (11, (.v (.int .i64 x11_78)))], [(3, (.box .ex [(S y3_0_79), (.v (.int .u32 y3_1_80)), (.v (.bool y3_2_81)), (L 4 e_api_Row y3_3_82)])), (4, (.box .ex [(.v (.bool y4_0_83)), (.v (.int .u64 y4_1_84)), (.sref 1082)])), (8, (.box .ex [(.v (.bool y8_0_85)), (.v (.int .u64 y8_1_86)), (.sref 1162)])), (1082, (.rows true 43 4 (y1082_87.map e_api_Row))), (1162, (.rows true 43 4 (y1162_88.map e_api_Row)))]⟩ ∧ watchbillref27_Take.l3 k (watchbillref27_Take.l2 k m76) x9_54 m101 y3_0_79 y3_1_80 y3_2_81 y3_3_82 y4_0_83 y4_1_84 y8_0_85 y8_1_86 y1082_87 y1162_88 x10_77 x11_78 = some r) k ⟨y3_0_55, y3_1_56, y3_2_57, y3_3_58, y4_0_59, y4_1_60, y8_0_61, y8_1_62, y1082_63, y1162_64, (-1), 0, rfl, H⟩ ?_
                rintro m101 σ ⟨y3_0_79, y3_1_80, y3_2_81, y3_3_82, y4_0_83, y4_1_84, y8_0_85, y8_1_86, y1082_87, y1162_88, x10_77, x11_78, rfl, H⟩
                cases m101 with
                | zero => exact absurd H (by simp [watchbillref27_Take.l3])
                | succ m101 =>
                  unfold watchbillref27_Take.l3 at H
                  refine Ok.seq ?_
                  refine Ok.seq ?_
                  refine Ok.region (σ' := ⟨[(3, (.bref 3 0)), (4, (.bref 4 0)), (8, (.bref 8 0)), (9, (.v (.int .i64 x9_54))), (10, (.v (.int .i64 x10_77))), (11, (.v (.int .i64 x11_78))), (78, (.v (.bool (decide (x11_78 < (y1162_88.length : Int))))))], [(3, (.box .ex [(S y3_0_79), (.v (.int .u32 y3_1_80)), (.v (.bool y3_2_81)), (L 4 e_api_Row y3_3_82)])), (4, (.box .ex [(.v (.bool y4_0_83)), (.v (.int .u64 y4_1_84)), (.sref 1082)])), (8, (.box .ex [(.v (.bool y8_0_85)), (.v (.int .u64 y8_1_86)), (.sref 1162)])), (1082, (.rows true 43 4 (y1082_87.map e_api_Row))), (1162, (.rows true 43 4 (y1162_88.map e_api_Row)))]⟩) ?_ ?_
                  · refine OpsOk.cons rfl (.v (VOk.mv (d := (.v (.int .i64 x11_78))) rfl rfl) rfl) ?_
                    refine OpsOk.cons rfl (.v (VOk.to (VOk.fieldB rfl Try.underlying50 rfl sz28 rfl rfl) rfl) rfl) ?_
                    refine OpsOk.cons rfl (.v (VOk.loadB (d := (.sref 1162)) rfl Try.underlying28 rfl rfl rfl rfl) rfl) ?_
                    refine OpsOk.cons rfl (.v (VOk.lenTL (e := e_api_Row) (xs := y1162_88) rfl Try.underlying28 rfl rfl) rfl) ?_
                    refine OpsOk.cons rfl (.v (VOk.arith (op := .lss) (k := .i64) (a := x11_78) (b := (y1162_88.length : Int)) rfl rfl rfl rfl) rfl) ?_
                    exact .done (.mk ⟨.same _, .same _, .same _, .same _, .same _, .same _, .same _, trivial⟩ ⟨.same _, .same _, .same _, .same _, .same _, trivial⟩)
                  refine Ok.test (b := (decide (x11_78 < (y1162_88.length : Int)))) rfl (fun hb110 => ?_) (fun hb110 => ?_)
                  · replace H := ifT H hb110
                    refine Ok.le (σ' := ⟨[(3, (.bref 3 0)), (4, (.bref 4 0)), (8, (.bref 8 0)), (9, (.v (.int .i64 x9_54))), (10, (.v (.int .i64 x10_77))), (11, (.v (.int .i64 x11_78)))], [(3, (.box .ex [(S y3_0_79), (.v (.int .u32 y3_1_80)), (.v (.bool y3_2_81)), (L 4 e_api_Row y3_3_82)])), (4, (.box .ex [(.v (.bool y4_0_83)), (.v (.int .u64 y4_1_84)), (.sref 1082)])), (8, (.box .ex [(.v (.bool y8_0_85)), (.v (.int .u64 y8_1_86)), (.sref 1162)])), (1082, (.rows true 43 4 (y1082_87.map e_api_Row))), (1162, (.rows true 43 4 (y1162_88.map e_api_Row)))]⟩) (.mk ⟨.same _, .same _, .same _, .same _, .same _, .same _, trivial⟩ ⟨.same _, .same _, .same _, .same _, .same _, trivial⟩) ?_
                    refine Ok.skip ?_
                    refine Ok.seq ?_
                    refine Ok.block ?_
                    refine Ok.seq ?_
                    obtain ⟨c102, H⟩ := assertE H
                    obtain ⟨c103, H⟩ := assertE H
                    refine Ok.drawE (σ' := ⟨[(3, (.bref 3 0)), (4, (.bref 4 0)), (8, (.bref 8 0)), (9, (.v (.int .i64 x9_54))), (10, (.v (.int .i64 x10_77))), (11, (.v (.int .i64 x11_78))), (93, (.v (.bool (((rd y1162_88 x11_78).URI) == ((rd y3_3_82 x9_54).URI)))))], [(3, (.box .ex [(S y3_0_79), (.v (.int .u32 y3_1_80)), (.v (.bool y3_2_81)), (L 4 e_api_Row y3_3_82)])), (4, (.box .ex [(.v (.bool y4_0_83)), (.v (.int .u64 y4_1_84)), (.sref 1082)])), (8, (.box .ex [(.v (.bool y8_0_85)), (.v (.int .u64 y8_1_86)), (.sref 1162)])), (1082, (.rows true 43 4 (y1082_87.map e_api_Row))), (1162, (.rows true 43 4 (y1162_88.map e_api_Row)))]⟩) [⟨true, [(8, (.bref 8 0))], (.bref 8 2)⟩, ⟨true, [(81, (.bref 8 2))], (.sref 1162)⟩, ⟨true, [(11, (.v (.int .i64 x11_78)))], (.v (.int .i64 x11_78))⟩, ⟨true, [(82, (.sref 1162)), (83, (.v (.int .i64 x11_78)))], (.eref 1162 (Int.toNat x11_78) 0)⟩, ⟨true, [(84, (.eref 1162 (Int.toNat x11_78) 0))], (.eref 1162 (Int.toNat x11_78) 0)⟩, ⟨true, [(85, (.eref 1162 (Int.toNat x11_78) 0))], (S ((rd y1162_88 x11_78).URI))⟩, ⟨true, [(3, (.bref 3 0))], (.bref 3 3)⟩, ⟨true, [(87, (.bref 3 3))], (L 4 e_api_Row y3_3_82)⟩, ⟨true, [(9, (.v (.int .i64 x9_54)))], (.v (.int .i64 x9_54))⟩, ⟨true, [(88, (L 4 e_api_Row y3_3_82)), (89, (.v (.int .i64 x9_54)))], (.fp (e_api_Row (rd y3_3_82 x9_54)) 0)⟩, ⟨true, [(90, (.fp (e_api_Row (rd y3_3_82 x9_54)) 0))], (.fp (e_api_Row (rd y3_3_82 x9_54)) 0)⟩, ⟨true, [(91, (.fp (e_api_Row (rd y3_3_82 x9_54)) 0))], (S ((rd y3_3_82 x9_54).URI))⟩, ⟨true, [(86, (S ((rd y1162_88 x11_78).URI))), (92, (S ((rd y3_3_82 x9_54).URI)))], (.v (.bool (((rd y1162_88 x11_78).URI) == ((rd y3_3_82 x9_54).URI))))⟩] [[], [0], [], [1, 2], [3], [4], [], [6], [], [7, 8], [9], [10], [5, 11]] mixed (by kernel_rfl) ?_ ?_
                    · refine TxtE.cons rfl ⟨.same _, trivial⟩ rfl (VOk.g (VOk.to (VOk.fieldB rfl Try.underlying50 rfl sz28 rfl rfl) rfl)) ?_
                      refine TxtE.cons rfl ⟨.same _, trivial⟩ rfl (VOk.g (VOk.loadB (d := (.sref 1162)) rfl Try.underlying28 rfl rfl rfl rfl)) ?_
                      refine TxtE.cons rfl ⟨.same _, trivial⟩ rfl (VOk.g (VOk.mv (d := (.v (.int .i64 x11_78))) rfl rfl)) ?_
                      refine TxtE.cons rfl ⟨.same _, .same _, trivial⟩ rfl (VOk.g (VOk.indexTL (e := e_api_Row) (xs := y1162_88) (i := x11_78) rfl Try.underlying28 sz43 rfl rfl rfl c102)) ?_
                      refine TxtE.cons rfl ⟨.same _, trivial⟩ rfl (VOk.g (VOk.to (VOk.fieldE rfl Try.underlying43 rfl sz9 rfl rfl) rfl)) ?_
                      refine TxtE.cons rfl ⟨.same _, trivial⟩ rfl (VOk.g (VOk.loadE (d := (S ((rd y1162_88 x11_78).URI))) rfl Try.underlying9 rfl rfl rfl (row_rd c102) rfl)) ?_
                      refine TxtE.cons rfl ⟨.same _, trivial⟩ rfl (VOk.g (VOk.to (VOk.fieldB rfl Try.underlying34 rfl sz28 rfl rfl) rfl)) ?_
                      refine TxtE.cons rfl ⟨.same _, trivial⟩ rfl (VOk.g (VOk.loadB (d := (L 4 e_api_Row y3_3_82)) rfl Try.underlying28 rfl rfl rfl rfl)) ?_
                      refine TxtE.cons rfl ⟨.same _, trivial⟩ rfl (VOk.g (VOk.mv (d := (.v (.int .i64 x9_54))) rfl rfl)) ?_
                      refine TxtE.cons rfl ⟨.same _, .same _, trivial⟩ rfl (VOk.g (VOk.indexL (sz := 4) (e := e_api_Row) (xs := y3_3_82) (i := x9_54) rfl Try.underlying28 sz43 rfl rfl c103)) ?_
                      refine TxtE.cons rfl ⟨.same _, trivial⟩ rfl (VOk.g (VOk.to (VOk.fieldFp rfl Try.underlying43 rfl sz9 rfl) rfl)) ?_
                      refine TxtE.cons rfl ⟨.same _, trivial⟩ rfl (VOk.g (VOk.loadFp (d := (S ((rd y3_3_82 x9_54).URI))) rfl Try.underlying9 rfl rfl rfl)) ?_
                      refine TxtE.cons rfl ⟨.same _, .same _, trivial⟩ rfl (VOk.g (VOk.strOp (op := .eql) (a := (rd y1162_88 x11_78).URI) (b := (rd y3_3_82 x9_54).URI) rfl rfl rfl rfl)) ?_
                      exact .done (.mk ⟨.same _, .same _, .same _, .same _, .same _, .same _, .same _, trivial⟩ ⟨.same _, .same _, .same _, .same _, .same _, trivial⟩)
                    refine Ok.test (b := (((rd y1162_88 x11_78).URI) == ((rd y3_3_82 x9_54).URI))) rfl (fun hb104 => ?_) (fun hb104 => ?_)
                    · replace H := ifT H hb104
                      refine Ok.region (σ' := ⟨[(3, (.bref 3 0)), (4, (.bref 4 0)), (8, (.bref 8 0)), (9, (.v (.int .i64 x9_54))), (10, (.v (.int .i64 x11_78))), (11, (.v (.int .i64 x11_78)))], [(3, (.box .ex [(S y3_0_79), (.v (.int .u32 y3_1_80)), (.v (.bool y3_2_81)), (L 4 e_api_Row y3_3_82)])), (4, (.box .ex [(.v (.bool y4_0_83)), (.v (.int .u64 y4_1_84)), (.sref 1082)])), (8, (.box .ex [(.v (.bool y8_0_85)), (.v (.int .u64 y8_1_86)), (.sref 1162)])), (1082, (.rows true 43 4 (y1082_87.map e_api_Row))), (1162, (.rows true 43 4 (y1162_88.map e_api_Row)))]⟩) ?_ ?_
                      · refine OpsOk.cons rfl (.v (VOk.mv (d := (.v (.int .i64 x11_78))) rfl rfl) rfl) ?_
                        refine OpsOk.cons rfl (.v (VOk.asg (d := (.v (.int .i64 x11_78))) rfl rfl) rfl) ?_
                        exact .done (.mk ⟨.same _, .same _, .same _, .same _, .same _, .same _, trivial⟩ ⟨.same _, .same _, .same _, .same _, .same _, trivial⟩)
                      refine Ok.region (σ' := ⟨[(3, (.bref 3 0)), (4, (.bref 4 0)), (8, (.bref 8 0)), (9, (.v (.int .i64 x9_54))), (10, (.v (.int .i64 x11_78))), (11, (.v (.int .i64 (IntKind.i64.wrap (x11_78 + 1)))))], [(3, (.box .ex [(S y3_0_79), (.v (.int .u32 y3_1_80)), (.v (.bool y3_2_81)), (L 4 e_api_Row y3_3_82)])), (4, (.box .ex [(.v (.bool y4_0_83)), (.v (.int .u64 y4_1_84)), (.sref 1082)])), (8, (.box .ex [(.v (.bool y8_0_85)), (.v (.int .u64 y8_1_86)), (.sref 1162)])), (1082, (.rows true 43 4 (y1082_87.map e_api_Row))), (1162, (.rows true 43 4 (y1162_88.map e_api_Row)))]⟩) ?_ ?_
                      · refine OpsOk.cons rfl (.v (VOk.mv (d := (.v (.int .i64 x11_78))) rfl rfl) rfl) ?_
                        refine OpsOk.cons rfl (.v (VOk.arith (op := .add) (k := .i64) (a := x11_78) (b := 1) rfl rfl rfl rfl) rfl) ?_
                        refine OpsOk.cons rfl (.v (VOk.asg (d := (.v (.int .i64 (IntKind.i64.wrap (x11_78 + 1))))) rfl rfl) rfl) ?_
                        exact .done (.mk ⟨.same _, .same _, .same _, .same _, .same _, .same _, trivial⟩ ⟨.same _, .same _, .same _, .same _, .same _, trivial⟩)
                      exact ⟨m101, Nat.lt_succ_self m101, y3_0_79, y3_1_80, y3_2_81, y3_3_82, y4_0_83, y4_1_84, y8_0_85, y8_1_86, y1082_87, y1162_88, x11_78, (IntKind.i64.wrap (x11_78 + 1)), rfl, H⟩
                    · replace H := ifF H hb104
                      refine Ok.le (σ' := ⟨[(3, (.bref 3 0)), (4, (.bref 4 0)), (8, (.bref 8 0)), (9, (.v (.int .i64 x9_54))), (10, (.v (.int .i64 x10_77))), (11, (.v (.int .i64 x11_78)))], [(3, (.box .ex [(S y3_0_79), (.v (.int .u32 y3_1_80)), (.v (.bool y3_2_81)), (L 4 e_api_Row y3_3_82)])), (4, (.box .ex [(.v (.bool y4_0_83)), (.v (.int .u64 y4_1_84)), (.sref 1082)])), (8, (.box .ex [(.v (.bool y8_0_85)), (.v (.int .u64 y8_1_86)), (.sref 1162)])), (1082, (.rows true 43 4 (y1082_87.map e_api_Row))), (1162, (.rows true 43 4 (y1162_88.map e_api_Row)))]⟩) (.mk ⟨.same _, .same _, .same _, .same _, .same _, .same _, trivial⟩ ⟨.same _, .same _, .same _, .same _, .same _, trivial⟩) ?_
                      refine Ok.skip ?_
                      refine Ok.region (σ' := ⟨[(3, (.bref 3 0)), (4, (.bref 4 0)), (8, (.bref 8 0)), (9, (.v (.int .i64 x9_54))), (10, (.v (.int .i64 x10_77))), (11, (.v (.int .i64 (IntKind.i64.wrap (x11_78 + 1)))))], [(3, (.box .ex [(S y3_0_79), (.v (.int .u32 y3_1_80)), (.v (.bool y3_2_81)), (L 4 e_api_Row y3_3_82)])), (4, (.box .ex [(.v (.bool y4_0_83)), (.v (.int .u64 y4_1_84)), (.sref 1082)])), (8, (.box .ex [(.v (.bool y8_0_85)), (.v (.int .u64 y8_1_86)), (.sref 1162)])), (1082, (.rows true 43 4 (y1082_87.map e_api_Row))), (1162, (.rows true 43 4 (y1162_88.map e_api_Row)))]⟩) ?_ ?_
                      · refine OpsOk.cons rfl (.v (VOk.mv (d := (.v (.int .i64 x11_78))) rfl rfl) rfl) ?_
                        refine OpsOk.cons rfl (.v (VOk.arith (op := .add) (k := .i64) (a := x11_78) (b := 1) rfl rfl rfl rfl) rfl) ?_
                        refine OpsOk.cons rfl (.v (VOk.asg (d := (.v (.int .i64 (IntKind.i64.wrap (x11_78 + 1))))) rfl rfl) rfl) ?_
                        exact .done (.mk ⟨.same _, .same _, .same _, .same _, .same _, .same _, trivial⟩ ⟨.same _, .same _, .same _, .same _, .same _, trivial⟩)
                      exact ⟨m101, Nat.lt_succ_self m101, y3_0_79, y3_1_80, y3_2_81, y3_3_82, y4_0_83, y4_1_84, y8_0_85, y8_1_86, y1082_87, y1162_88, x10_77, (IntKind.i64.wrap (x11_78 + 1)), rfl, H⟩
                  · replace H := ifF H hb110
                    refine Ok.le (σ' := ⟨[(3, (.bref 3 0)), (4, (.bref 4 0)), (8, (.bref 8 0)), (9, (.v (.int .i64 x9_54))), (10, (.v (.int .i64 x10_77)))], [(3, (.box .ex [(S y3_0_79), (.v (.int .u32 y3_1_80)), (.v (.bool y3_2_81)), (L 4 e_api_Row y3_3_82)])), (4, (.box .ex [(.v (.bool y4_0_83)), (.v (.int .u64 y4_1_84)), (.sref 1082)])), (8, (.box .ex [(.v (.bool y8_0_85)), (.v (.int .u64 y8_1_86)), (.sref 1162)])), (1082, (.rows true 43 4 (y1082_87.map e_api_Row))), (1162, (.rows true 43 4 (y1162_88.map e_api_Row)))]⟩) (.mk ⟨.same _, .same _, .same _, .same _, .same _, trivial⟩ ⟨.same _, .same _, .same _, .same _, .same _, trivial⟩) ?_
                    refine Ok.exit ?_
                    refine Ok.seq ?_
                    refine Ok.region (σ' := ⟨[(3, (.bref 3 0)), (4, (.bref 4 0)), (8, (.bref 8 0)), (9, (.v (.int .i64 x9_54))), (10, (.v (.int .i64 x10_77))), (96, (.v (.bool (decide (x10_77 < 0)))))], [(3, (.box .ex [(S y3_0_79), (.v (.int .u32 y3_1_80)), (.v (.bool y3_2_81)), (L 4 e_api_Row y3_3_82)])), (4, (.box .ex [(.v (.bool y4_0_83)), (.v (.int .u64 y4_1_84)), (.sref 1082)])), (8, (.box .ex [(.v (.bool y8_0_85)), (.v (.int .u64 y8_1_86)), (.sref 1162)])), (1082, (.rows true 43 4 (y1082_87.map e_api_Row))), (1162, (.rows true 43 4 (y1162_88.map e_api_Row)))]⟩) ?_ ?_
                    · refine OpsOk.cons rfl (.v (VOk.mv (d := (.v (.int .i64 x10_77))) rfl rfl) rfl) ?_
                      refine OpsOk.cons rfl (.v (VOk.arith (op := .lss) (k := .i64) (a := x10_77) (b := 0) rfl rfl rfl rfl) rfl) ?_
                      exact .done (.mk ⟨.same _, .same _, .same _, .same _, .same _, .same _, trivial⟩ ⟨.same _, .same _, .same _, .same _, .same _, trivial⟩)
                    refine Ok.test (b := (decide (x10_77 < 0))) rfl (fun hb109 => ?_) (fun hb109 => ?_)
                    · replace H := ifT H hb109
                      obtain ⟨c105, H⟩ := assertE H
                      obtain ⟨c106, H⟩ := assertE H
                      refine Ok.le (σ' := ⟨[(3, (.bref 3 0)), (4, (.bref 4 0)), (8, (.bref 8 0)), (9, (.v (.int .i64 x9_54)))], [(3, (.box .ex [(S y3_0_79), (.v (.int .u32 y3_1_80)), (.v (.bool y3_2_81)), (L 4 e_api_Row y3_3_82)])), (4, (.box .ex [(.v (.bool y4_0_83)), (.v (.int .u64 y4_1_84)), (.sref 1082)])), (8, (.box .ex [(.v (.bool y8_0_85)), (.v (.int .u64 y8_1_86)), (.sref 1162)])), (1082, (.rows true 43 4 (y1082_87.map e_api_Row))), (1162, (.rows true 43 4 (y1162_88.map e_api_Row)))]⟩) (.mk ⟨.same _, .same _, .same _, .same _, trivial⟩ ⟨.same _, .same _, .same _, .same _, .same _, trivial⟩) ?_
                      refine Ok.drawE2 (σ' := ⟨[(3, (.bref 3 0)), (4, (.bref 4 0)), (8, (.bref 8 0)), (9, (.v (.int .i64 x9_54)))], [(3, (.box .ex [(S y3_0_79), (.v (.int .u32 y3_1_80)), (.v (.bool y3_2_81)), (L 4 e_api_Row y3_3_82)])), (4, (.box .ex [(.v (.bool y4_0_83)), (.v (.int .u64 y4_1_84)), (.sref 1082)])), (8, (.box .ex [(.v (.bool y8_0_85)), (.v (.int .u64 y8_1_86)), (.sref 1162)])), (1082, (.rows true 43 4 (y1082_87.map e_api_Row))), (1162, (.rows true 43 4 ((y1162_88 ++ ([(rd y3_3_82 x9_54)] : List T_api_Row)).map e_api_Row)))]⟩) [⟨true, [(8, (.bref 8 0))], [(8, (.box .ex [(.v (.bool y8_0_85)), (.v (.int .u64 y8_1_86)), (.sref 1162)]))], (.bref 8 2), [], false, []⟩, ⟨true, [(97, (.bref 8 2))], [(8, (.box .ex [(.v (.bool y8_0_85)), (.v (.int .u64 y8_1_86)), (.sref 1162)]))], (.sref 1162), [], false, []⟩, ⟨true, [(3, (.bref 3 0))], [(3, (.box .ex [(S y3_0_79), (.v (.int .u32 y3_1_80)), (.v (.bool y3_2_81)), (L 4 e_api_Row y3_3_82)]))], (.bref 3 3), [], false, []⟩, ⟨true, [(99, (.bref 3 3))], [(3, (.box .ex [(S y3_0_79), (.v (.int .u32 y3_1_80)), (.v (.bool y3_2_81)), (L 4 e_api_Row y3_3_82)]))], (L 4 e_api_Row y3_3_82), [], false, []⟩, ⟨true, [(9, (.v (.int .i64 x9_54)))], [], (.v (.int .i64 x9_54)), [], false, []⟩, ⟨true, [(100, (L 4 e_api_Row y3_3_82)), (101, (.v (.int .i64 x9_54)))], [], (.fp (e_api_Row (rd y3_3_82 x9_54)) 0), [], false, []⟩, ⟨true, [(102, (.fp (e_api_Row (rd y3_3_82 x9_54)) 0))], [], (.agg (e_api_Row (rd y3_3_82 x9_54))), [], false, []⟩, ⟨true, [(103, (.agg (e_api_Row (rd y3_3_82 x9_54))))], [], (L 4 e_api_Row ([(rd y3_3_82 x9_54)] : List T_api_Row)), [], false, []⟩, ⟨true, [(98, (.sref 1162)), (104, (L 4 e_api_Row ([(rd y3_3_82 x9_54)] : List T_api_Row)))], [(1162, (.rows true 43 4 (y1162_88.map e_api_Row)))], (.sref 105), [(105, (.rows true 43 4 ((y1162_88 ++ ([(rd y3_3_82 x9_54)] : List T_api_Row)).map e_api_Row))), (1162, .none)], true, []⟩, ⟨true, [(8, (.bref 8 0))], [(8, (.box .ex [(.v (.bool y8_0_85)), (.v (.int .u64 y8_1_86)), (.sref 1162)]))], (.bref 8 2), [], false, []⟩, ⟨true, [(106, (.bref 8 2)), (105, (.sref 105))], [(8, (.box .ex [(.v (.bool y8_0_85)), (.v (.int .u64 y8_1_86)), (.sref 1162)])), (105, (.rows true 43 4 ((y1162_88 ++ ([(rd y3_3_82 x9_54)] : List T_api_Row)).map e_api_Row)))], .junk, [(8, (.box .ex [(.v (.bool y8_0_85)), (.v (.int .u64 y8_1_86)), (.sref 105)]))], false, []⟩] [[], [0], [], [2], [], [3, 4], [5], [6], [1, 7], [], [0, 1, 8, 9]] mixed (by kernel_rfl) ?_ ?_
                      · refine TxtE2.cons ⟨.same _, trivial⟩ ⟨rfl, trivial⟩ (It2.val rfl rfl (fun T hT => (VOk.g (VOk.to (VOk.fieldB rfl Try.underlying50 rfl sz28 rfl hT.1) rfl)))) ?_
                        refine TxtE2.cons ⟨.same _, trivial⟩ ⟨rfl, trivial⟩ (It2.val rfl rfl (fun T hT => (VOk.g (VOk.loadB (d := (.sref 1162)) rfl Try.underlying28 rfl rfl hT.1 rfl)))) ?_
                        refine TxtE2.cons ⟨.same _, trivial⟩ ⟨rfl, trivial⟩ (It2.val rfl rfl (fun T hT => (VOk.g (VOk.to (VOk.fieldB rfl Try.underlying34 rfl sz28 rfl hT.1) rfl)))) ?_
                        refine TxtE2.cons ⟨.same _, trivial⟩ ⟨rfl, trivial⟩ (It2.val rfl rfl (fun T hT => (VOk.g (VOk.loadB (d := (L 4 e_api_Row y3_3_82)) rfl Try.underlying28 rfl rfl hT.1 rfl)))) ?_
                        refine TxtE2.cons ⟨.same _, trivial⟩ trivial (It2.val rfl rfl (fun T hT => (VOk.g (VOk.mv (d := (.v (.int .i64 x9_54))) rfl rfl)))) ?_
                        refine TxtE2.cons ⟨.same _, .same _, trivial⟩ trivial (It2.val rfl rfl (fun T hT => (VOk.g (VOk.indexL (sz := 4) (e := e_api_Row) (xs := y3_3_82) (i := x9_54) rfl Try.underlying28 sz43 rfl rfl c105)))) ?_
                        refine TxtE2.cons ⟨.same _, trivial⟩ trivial (It2.val rfl rfl (fun T hT => (VOk.g (VOk.to (d' := (.agg (e_api_Row (rd y3_3_82 x9_54)))) (.loadFpAgg rfl Try.underlying43 rfl sz43 rfl rfl) rfl)))) ?_
                        refine TxtE2.cons ⟨.same _, trivial⟩ trivial (It2.val rfl rfl (fun T hT => (GOk.to (d' := (L 4 e_api_Row ([(rd y3_3_82 x9_54)] : List T_api_Row))) (GOk.lit rfl Try.underlying28 sz43 zs43 rfl rfl rfl rfl) rfl))) ?_
                        refine TxtE2.cons ⟨.same _, .same _, trivial⟩ ⟨rfl, trivial⟩ (It2.appendL 105 (e := e_api_Row) (xs := y1162_88) (ys := ([(rd y3_3_82 x9_54)] : List T_api_Row)) rfl rfl Try.underlying28 elt43 rfl rfl rfl rfl c106 rfl rfl) ?_
                        refine TxtE2.cons ⟨.same _, trivial⟩ ⟨rfl, trivial⟩ (It2.val rfl rfl (fun T hT => (VOk.g (VOk.to (VOk.fieldB rfl Try.underlying50 rfl sz28 rfl hT.1) rfl)))) ?_
                        refine TxtE2.cons ⟨.same _, .same _, trivial⟩ ⟨rfl, rfl, trivial⟩ (It2.store rfl rfl sz28 rfl rfl rfl rfl rfl rfl rfl rfl) ?_
                        exact .doneS (SLe.trans (Le.s (.mk ⟨.same _, .same _, .same _, .same _, trivial⟩ ⟨.same _, .same _, .same _, .same _, .same _, trivial⟩)) (SLe.ren 105 1162 rfl rfl))
                      refine Ok.region (σ' := ⟨[(3, (.bref 3 0)), (4, (.bref 4 0)), (8, (.bref 8 0)), (9, (.v (.int .i64 (IntKind.i64.wrap (x9_54 + 1)))))], [(3, (.box .ex [(S y3_0_79), (.v (.int .u32 y3_1_80)), (.v (.bool y3_2_81)), (L 4 e_api_Row y3_3_82)])), (4, (.box .ex [(.v (.bool y4_0_83)), (.v (.int .u64 y4_1_84)), (.sref 1082)])), (8, (.box .ex [(.v (.bool y8_0_85)), (.v (.int .u64 y8_1_86)), (.sref 1162)])), (1082, (.rows true 43 4 (y1082_87.map e_api_Row))), (1162, (.rows true 43 4 ((y1162_88 ++ ([(rd y3_3_82 x9_54)] : List T_api_Row)).map e_api_Row)))]⟩) ?_ ?_
                      · refine OpsOk.cons rfl (.v (VOk.mv (d := (.v (.int .i64 x9_54))) rfl rfl) rfl) ?_
                        refine OpsOk.cons rfl (.v (VOk.arith (op := .add) (k := .i64) (a := x9_54) (b := 1) rfl rfl rfl rfl) rfl) ?_
                        refine OpsOk.cons rfl (.v (VOk.asg (d := (.v (.int .i64 (IntKind.i64.wrap (x9_54 + 1))))) rfl rfl) rfl) ?_
                        exact .done (.mk ⟨.same _, .same _, .same _, .same _, trivial⟩ ⟨.same _, .same _, .same _, .same _, .same _, trivial⟩)
                      exact ⟨m76, Nat.lt_succ_self m76, y3_0_79, y3_1_80, y3_2_81, y3_3_82, y4_0_83, y4_1_84, y8_0_85, y8_1_86, y1082_87, (y1162_88 ++ ([(rd y3_3_82 x9_54)] : List T_api_Row)), (IntKind.i64.wrap (x9_54 + 1)), rfl, H⟩
                    · replace H := ifF H hb109
                      obtain ⟨c107, H⟩ := assertE H
                      obtain ⟨c108, H⟩ := assertE H
                      refine Ok.le (σ' := ⟨[(3, (.bref 3 0)), (4, (.bref 4 0)), (8, (.bref 8 0)), (9, (.v (.int .i64 x9_54))), (10, (.v (.int .i64 x10_77)))], [(3, (.box .ex [(S y3_0_79), (.v (.int .u32 y3_1_80)), (.v (.bool y3_2_81)), (L 4 e_api_Row y3_3_82)])), (4, (.box .ex [(.v (.bool y4_0_83)), (.v (.int .u64 y4_1_84)), (.sref 1082)])), (8, (.box .ex [(.v (.bool y8_0_85)), (.v (.int .u64 y8_1_86)), (.sref 1162)])), (1082, (.rows true 43 4 (y1082_87.map e_api_Row))), (1162, (.rows true 43 4 (y1162_88.map e_api_Row)))]⟩) (.mk ⟨.same _, .same _, .same _, .same _, .same _, trivial⟩ ⟨.same _, .same _, .same _, .same _, .same _, trivial⟩) ?_
                      refine Ok.drawE2 (σ' := ⟨[(3, (.bref 3 0)), (4, (.bref 4 0)), (8, (.bref 8 0)), (9, (.v (.int .i64 x9_54)))], [(3, (.box .ex [(S y3_0_79), (.v (.int .u32 y3_1_80)), (.v (.bool y3_2_81)), (L 4 e_api_Row y3_3_82)])), (4, (.box .ex [(.v (.bool y4_0_83)), (.v (.int .u64 y4_1_84)), (.sref 1082)])), (8, (.box .ex [(.v (.bool y8_0_85)), (.v (.int .u64 y8_1_86)), (.sref 1162)])), (1082, (.rows true 43 4 (y1082_87.map e_api_Row))), (1162, (.rows true 43 4 ((y1162_88.set (Int.toNat x10_77) (rd y3_3_82 x9_54)).map e_api_Row)))]⟩) [⟨true, [(8, (.bref 8 0))], [(8, (.box .ex [(.v (.bool y8_0_85)), (.v (.int .u64 y8_1_86)), (.sref 1162)]))], (.bref 8 2), [], false, []⟩, ⟨true, [(107, (.bref 8 2))], [(8, (.box .ex [(.v (.bool y8_0_85)), (.v (.int .u64 y8_1_86)), (.sref 1162)]))], (.sref 1162), [], false, []⟩, ⟨true, [(10, (.v (.int .i64 x10_77)))], [], (.v (.int .i64 x10_77)), [], false, []⟩, ⟨true, [(3, (.bref 3 0))], [(3, (.box .ex [(S y3_0_79), (.v (.int .u32 y3_1_80)), (.v (.bool y3_2_81)), (L 4 e_api_Row y3_3_82)]))], (.bref 3 3), [], false, []⟩, ⟨true, [(110, (.bref 3 3))], [(3, (.box .ex [(S y3_0_79), (.v (.int .u32 y3_1_80)), (.v (.bool y3_2_81)), (L 4 e_api_Row y3_3_82)]))], (L 4 e_api_Row y3_3_82), [], false, []⟩, ⟨true, [(9, (.v (.int .i64 x9_54)))], [], (.v (.int .i64 x9_54)), [], false, []⟩, ⟨true, [(111, (L 4 e_api_Row y3_3_82)), (112, (.v (.int .i64 x9_54)))], [], (.fp (e_api_Row (rd y3_3_82 x9_54)) 0), [], false, []⟩, ⟨true, [(113, (.fp (e_api_Row (rd y3_3_82 x9_54)) 0))], [], (.agg (e_api_Row (rd y3_3_82 x9_54))), [], false, []⟩, ⟨true, [(108, (.sref 1162)), (109, (.v (.int .i64 x10_77)))], [(1162, (.rows true 43 4 (y1162_88.map e_api_Row)))], (.eref 1162 (Int.toNat x10_77) 0), [], false, []⟩, ⟨true, [(115, (.eref 1162 (Int.toNat x10_77) 0)), (114, (.agg (e_api_Row (rd y3_3_82 x9_54))))], [(1162, (.rows true 43 4 (y1162_88.map e_api_Row)))], .junk, [(1162, (.rows true 43 4 ((y1162_88.set (Int.toNat x10_77) (rd y3_3_82 x9_54)).map e_api_Row)))], false, []⟩] [[], [0], [], [], [3], [], [4, 5], [6], [1, 2], [7, 8]] mixed (by kernel_rfl) ?_ ?_
                      · refine TxtE2.cons ⟨.same _, trivial⟩ ⟨rfl, trivial⟩ (It2.val rfl rfl (fun T hT => (VOk.g (VOk.to (VOk.fieldB rfl Try.underlying50 rfl sz28 rfl hT.1) rfl)))) ?_
                        refine TxtE2.cons ⟨.same _, trivial⟩ ⟨rfl, trivial⟩ (It2.val rfl rfl (fun T hT => (VOk.g (VOk.loadB (d := (.sref 1162)) rfl Try.underlying28 rfl rfl hT.1 rfl)))) ?_
                        refine TxtE2.cons ⟨.same _, trivial⟩ trivial (It2.val rfl rfl (fun T hT => (VOk.g (VOk.mv (d := (.v (.int .i64 x10_77))) rfl rfl)))) ?_
                        refine TxtE2.cons ⟨.same _, trivial⟩ ⟨rfl, trivial⟩ (It2.val rfl rfl (fun T hT => (VOk.g (VOk.to (VOk.fieldB rfl Try.underlying34 rfl sz28 rfl hT.1) rfl)))) ?_
                        refine TxtE2.cons ⟨.same _, trivial⟩ ⟨rfl, trivial⟩ (It2.val rfl rfl (fun T hT => (VOk.g (VOk.loadB (d := (L 4 e_api_Row y3_3_82)) rfl Try.underlying28 rfl rfl hT.1 rfl)))) ?_
                        refine TxtE2.cons ⟨.same _, trivial⟩ trivial (It2.val rfl rfl (fun T hT => (VOk.g (VOk.mv (d := (.v (.int .i64 x9_54))) rfl rfl)))) ?_
                        refine TxtE2.cons ⟨.same _, .same _, trivial⟩ trivial (It2.val rfl rfl (fun T hT => (VOk.g (VOk.indexL (sz := 4) (e := e_api_Row) (xs := y3_3_82) (i := x9_54) rfl Try.underlying28 sz43 rfl rfl c107)))) ?_
                        refine TxtE2.cons ⟨.same _, trivial⟩ trivial (It2.val rfl rfl (fun T hT => (VOk.g (VOk.to (d' := (.agg (e_api_Row (rd y3_3_82 x9_54)))) (.loadFpAgg rfl Try.underlying43 rfl sz43 rfl rfl) rfl)))) ?_
                        refine TxtE2.cons ⟨.same _, .same _, trivial⟩ ⟨rfl, trivial⟩ (It2.val rfl rfl (fun T hT => (VOk.g (VOk.indexTL (e := e_api_Row) (xs := y1162_88) (i := x10_77) rfl Try.underlying28 sz43 rfl hT.1 rfl c108)))) ?_
                        refine TxtE2.cons ⟨.same _, .same _, trivial⟩ ⟨rfl, trivial⟩ (It2.storeEL (e := e_api_Row) (xs := y1162_88) (i := x10_77) (y := (rd y3_3_82 x9_54)) rfl rfl sz43 rfl rfl rfl c108 rfl rfl rfl rfl rfl rfl) ?_
                        exact .done (.mk ⟨.same _, .same _, .same _, .same _, trivial⟩ ⟨.same _, .same _, .same _, .same _, .same _, trivial⟩)
                      refine Ok.region (σ' := ⟨[(3, (.bref 3 0)), (4, (.bref 4 0)), (8, (.bref 8 0)), (9, (.v (.int .i64 (IntKind.i64.wrap (x9_54 + 1)))))], [(3, (.box .ex [(S y3_0_79), (.v (.int .u32 y3_1_80)), (.v (.bool y3_2_81)), (L 4 e_api_Row y3_3_82)])), (4, (.box .ex [(.v (.bool y4_0_83)), (.v (.int .u64 y4_1_84)), (.sref 1082)])), (8, (.box .ex [(.v (.bool y8_0_85)), (.v (.int .u64 y8_1_86)), (.sref 1162)])), (1082, (.rows true 43 4 (y1082_87.map e_api_Row))), (1162, (.rows true 43 4 ((y1162_88.set (Int.toNat x10_77) (rd y3_3_82 x9_54)).map e_api_Row)))]⟩) ?_ ?_
                      · refine OpsOk.cons rfl (.v (VOk.mv (d := (.v (.int .i64 x9_54))) rfl rfl) rfl) ?_
                        refine OpsOk.cons rfl (.v (VOk.arith (op := .add) (k := .i64) (a := x9_54) (b := 1) rfl rfl rfl rfl) rfl) ?_
                        refine OpsOk.cons rfl (.v (VOk.asg (d := (.v (.int .i64 (IntKind.i64.wrap (x9_54 + 1))))) rfl rfl) rfl) ?_
                        exact .done (.mk ⟨.same _, .same _, .same _, .same _, trivial⟩ ⟨.same _, .same _, .same _, .same _, .same _, trivial⟩)
                      exact ⟨m76, Nat.lt_succ_self m76, y3_0_79, y3_1_80, y3_2_81, y3_3_82, y4_0_83, y4_1_84, y8_0_85, y8_1_86, y1082_87, (y1162_88.set (Int.toNat x10_77) (rd y3_3_82 x9_54)), (IntKind.i64.wrap (x9_54 + 1)), rfl, H⟩
              · replace H := ifF H hb111
                refine Ok.le (σ' := ⟨[(4, (.bref 4 0)), (8, (.bref 8 0))], [(4, (.box .ex [(.v (.bool y4_0_59)), (.v (.int .u64 y4_1_60)), (.sref 1082)])), (8, (.box .ex [(.v (.bool y8_0_61)), (.v (.int .u64 y8_1_62)), (.sref 1162)])), (1082, (.rows true 43 4 (y1082_63.map e_api_Row))), (1162, (.rows true 43 4 (y1162_64.map e_api_Row)))]⟩) (.mk ⟨.same _, .same _, trivial⟩ ⟨.same _, .same _, .same _, .same _, trivial⟩) ?_
                refine Ok.exit ?_
                refine Ok.seq ?_
                refine Ok.region (σ' := ⟨[(4, (.bref 4 0)), (5, (.v (.int .i64 0)))], [(4, (.box .ex [(.v (.bool ((T_watchbillref27_Client.mk y8_0_61 y8_1_62 y1162_64).Begun))), (.v (.int .u64 ((T_watchbillref27_Client.mk y8_0_61 y8_1_62 y1162_64).Next))), (L 4 e_api_Row ((T_watchbillref27_Client.mk y8_0_61 y8_1_62 y1162_64).Rows))]))]⟩) ?_ ?_
                · refine OpsOk.frzL 1162 (e := e_api_Row) (xs := y1162_64) rfl ?_
                  refine OpsOk.cons rfl (.v (VOk.to (d' := (.agg (e_watchbillref27_Client (T_watchbillref27_Client.mk y8_0_61 y8_1_62 y1162_64)))) (.loadBAgg rfl Try.underlying50 rfl sz50 rfl rfl rfl) rfl) rfl) ?_
                  refine OpsOk.cons rfl (OpOk.to (σ2 := St.put ⟨_, (4, (.box .ex [(.v (.bool ((T_watchbillref27_Client.mk y8_0_61 y8_1_62 y1162_64).Begun))), (.v (.int .u64 ((T_watchbillref27_Client.mk y8_0_61 y8_1_62 y1162_64).Next))), (L 4 e_api_Row ((T_watchbillref27_Client.mk y8_0_61 y8_1_62 y1162_64).Rows))])) :: _⟩ _ .junk) (.storeB rfl sz50 rfl rfl rfl rfl rfl rfl) rfl) ?_
                  refine OpsOk.cons rfl (.v (VOk.asg (d := (.v (.int .i64 0))) rfl rfl) rfl) ?_
                  exact .done (.mk ⟨.same _, .same _, trivial⟩ ⟨.same _, trivial⟩)
                refine Ok.le (σ' := ⟨[(4, (.bref 4 0)), (5, (.v (.int .i64 0)))], [(4, (.box .ex [(.v (.bool ((T_watchbillref27_Client.mk y8_0_61 y8_1_62 y1162_64).Begun))), (.v (.int .u64 ((T_watchbillref27_Client.mk y8_0_61 y8_1_62 y1162_64).Next))), (L 4 e_api_Row ((T_watchbillref27_Client.mk y8_0_61 y8_1_62 y1162_64).Rows))]))]⟩) (.mk ⟨.same _, .same _, trivial⟩ ⟨.same _, trivial⟩) ?_
                refine Ok.ret ?_
                obtain rfl := Option.some.inj H
                exact ⟨.inl rfl, ⟨_, (.cons (.cell (VOk.to (d' := (.agg (e_watchbillref27_Client (T_watchbillref27_Client.mk y8_0_61 y8_1_62 y1162_64)))) (.loadBAgg rfl Try.underlying50 rfl sz50 rfl rfl rfl) rfl)) (.cons (.tmp rfl) .nil)), rfl⟩, trivial⟩

/-! watchbill/watchbillref24.Rows: function 19 -/
def watchbillref24_Rows.l0 (k : Nat) (a0 : List T_api_Row) (a1 : List T_api_Row) : Nat → Int → Option Bool
  | 0, _ => none
  | m3 + 1, x5_1 => (if (decide (x5_1 < (a0.length : Int))) = true then (if (0 : Int) ≤ x5_1 ∧ x5_1 < (a0.length : Int) then (if (0 : Int) ≤ x5_1 ∧ x5_1 < (a1.length : Int) then (if (!((rd a0 x5_1).URI == (rd a1 x5_1).URI && ((rd a0 x5_1).Name == (rd a1 x5_1).Name && ((rd a0 x5_1).State == (rd a1 x5_1).State && ((rd a0 x5_1).Body == (rd a1 x5_1).Body && true))))) = true then some false else watchbillref24_Rows.l0 k a0 a1 m3 (IntKind.i64.wrap (x5_1 + 1))) else none) else none) else some true)
def watchbillref24_Rows (k : Nat) (a0 : List T_api_Row) (a1 : List T_api_Row) : Option Bool := (if ((a0.length : Int) != (a1.length : Int)) = true then some false else watchbillref24_Rows.l0 k a0 a1 k 0)
theorem watchbillref24_Rows.ok {k : Nat} {a0 : List T_api_Row} {a1 : List T_api_Row} {r : Bool} (H : watchbillref24_Rows k a0 a1 = some r) : Vx.Fn Try.prog 19 [(L 4 e_api_Row a0), (L 4 e_api_Row a1)] [] (.v (.bool r)) [] := by
  unfold watchbillref24_Rows at H
  refine Vx.Fn.of_okR Try.func19 rfl (Nat.le_of_ble_eq_true rfl) ?_
  refine Ok.seq ?_
  refine Ok.region (σ' := ⟨[(0, (L 4 e_api_Row a0)), (1, (L 4 e_api_Row a1))], []⟩) ?_ ?_
  · refine OpsOk.cons rfl (.v (VOk.asg (d := (.v (.bool false))) rfl rfl) rfl) ?_
    exact .done (.mk ⟨.same _, .same _, trivial⟩ trivial)
  refine Ok.seq ?_
  refine Ok.seq ?_
  refine Ok.region (σ' := ⟨[(0, (L 4 e_api_Row a0)), (1, (L 4 e_api_Row a1)), (10, (.v (.bool ((a0.length : Int) != (a1.length : Int)))))], []⟩) ?_ ?_
  · refine OpsOk.cons rfl (.v (VOk.mv (d := (L 4 e_api_Row a0)) rfl rfl) rfl) ?_
    refine OpsOk.cons rfl (.v (VOk.lenL (e := e_api_Row) (xs := a0) rfl Try.underlying28 rfl) rfl) ?_
    refine OpsOk.cons rfl (.v (VOk.mv (d := (L 4 e_api_Row a1)) rfl rfl) rfl) ?_
    refine OpsOk.cons rfl (.v (VOk.lenL (e := e_api_Row) (xs := a1) rfl Try.underlying28 rfl) rfl) ?_
    refine OpsOk.cons rfl (.v (VOk.arith (op := .neq) (k := .i64) (a := (a0.length : Int)) (b := (a1.length : Int)) rfl rfl rfl rfl) rfl) ?_
    exact .done (.mk ⟨.same _, .same _, .same _, trivial⟩ trivial)
  refine Ok.test (b := ((a0.length : Int) != (a1.length : Int))) rfl (fun hb8 => ?_) (fun hb8 => ?_)
  · replace H := ifT H hb8
    refine Ok.seq ?_
    refine Ok.region (σ' := ⟨[(4, (.v (.bool false)))], []⟩) ?_ ?_
    · refine OpsOk.cons rfl (.v (VOk.asg (d := (.v (.bool false))) rfl rfl) rfl) ?_
      exact .done (.mk ⟨.same _, trivial⟩ trivial)
    refine Ok.le (σ' := ⟨[(4, (.v (.bool false)))], []⟩) (.mk ⟨.same _, trivial⟩ trivial) ?_
    refine Ok.ret ?_
    obtain rfl := Option.some.inj H
    exact ⟨.inl rfl, ⟨_, (.cons (.tmp rfl) .nil), rfl⟩, trivial⟩
  · replace H := ifF H hb8
    refine Ok.le (σ' := ⟨[(0, (L 4 e_api_Row a0)), (1, (L 4 e_api_Row a1))], []⟩) (.mk ⟨.same _, .same _, trivial⟩ trivial) ?_
    refine Ok.skip ?_
    refine Ok.seq ?_
    refine Ok.seq ?_
    refine Ok.region (σ' := ⟨[(0, (L 4 e_api_Row a0)), (1, (L 4 e_api_Row a1)), (5, (.v (.int .i64 0)))], []⟩) ?_ ?_
    · refine OpsOk.cons rfl (.v (VOk.asg (d := (.v (.int .i64 0))) rfl rfl) rfl) ?_
      exact .done (.mk ⟨.same _, .same _, .same _, trivial⟩ trivial)
    refine Ok.block ?_
    refine Ok.le (σ' := ⟨[(0, (L 4 e_api_Row a0)), (1, (L 4 e_api_Row a1)), (5, (.v (.int .i64 0)))], []⟩) (.mk ⟨.same _, .same _, .same _, trivial⟩ trivial) ?_
    refine Ok.loop (fun m3 σ => ∃ (x5_1 : Int), σ = ⟨[(0, (L 4 e_api_Row a0)), (1, (L 4 e_api_Row a1)), (5, (.v (.int .i64 x5_1)))], []⟩ ∧ watchbillref24_Rows.l0 k a0 a1 m3 x5_1 = some r) k ⟨0, rfl, H⟩ ?_
    rintro m3 σ ⟨x5_1, rfl, H⟩
    cases m3 with
    | zero => exact absurd H (by simp [watchbillref24_Rows.l0])
    | succ m3 =>
      unfold watchbillref24_Rows.l0 at H
      refine Ok.seq ?_
      refine Ok.seq ?_
      refine Ok.region (σ' := ⟨[(0, (L 4 e_api_Row a0)), (1, (L 4 e_api_Row a1)), (5, (.v (.int .i64 x5_1))), (14, (.v (.bool (decide (x5_1 < (a0.length : Int))))))], []⟩) ?_ ?_
      · refine OpsOk.cons rfl (.v (VOk.mv (d := (.v (.int .i64 x5_1))) rfl rfl) rfl) ?_
        refine OpsOk.cons rfl (.v (VOk.mv (d := (L 4 e_api_Row a0)) rfl rfl) rfl) ?_
        refine OpsOk.cons rfl (.v (VOk.lenL (e := e_api_Row) (xs := a0) rfl Try.underlying28 rfl) rfl) ?_
        refine OpsOk.cons rfl (.v (VOk.arith (op := .lss) (k := .i64) (a := x5_1) (b := (a0.length : Int)) rfl rfl rfl rfl) rfl) ?_
        exact .done (.mk ⟨.same _, .same _, .same _, .same _, trivial⟩ trivial)
      refine Ok.test (b := (decide (x5_1 < (a0.length : Int)))) rfl (fun hb7 => ?_) (fun hb7 => ?_)
      · replace H := ifT H hb7
        refine Ok.le (σ' := ⟨[(0, (L 4 e_api_Row a0)), (1, (L 4 e_api_Row a1)), (5, (.v (.int .i64 x5_1)))], []⟩) (.mk ⟨.same _, .same _, .same _, trivial⟩ trivial) ?_
        refine Ok.skip ?_
        refine Ok.seq ?_
        refine Ok.block ?_
        refine Ok.seq ?_
        obtain ⟨c4, H⟩ := assertE H
        obtain ⟨c5, H⟩ := assertE H
        refine Ok.drawE (σ' := ⟨[(0, (L 4 e_api_Row a0)), (1, (L 4 e_api_Row a1)), (5, (.v (.int .i64 x5_1))), (25, (.v (.bool (!((rd a0 x5_1).URI == (rd a1 x5_1).URI && ((rd a0 x5_1).Name == (rd a1 x5_1).Name && ((rd a0 x5_1).State == (rd a1 x5_1).State && ((rd a0 x5_1).Body == (rd a1 x5_1).Body && true))))))))], []⟩) [⟨true, [(0, (L 4 e_api_Row a0))], (L 4 e_api_Row a0)⟩, ⟨true, [(5, (.v (.int .i64 x5_1)))], (.v (.int .i64 x5_1))⟩, ⟨true, [(17, (L 4 e_api_Row a0)), (18, (.v (.int .i64 x5_1)))], (.fp (e_api_Row (rd a0 x5_1)) 0)⟩, ⟨true, [(19, (.fp (e_api_Row (rd a0 x5_1)) 0))], (.agg (e_api_Row (rd a0 x5_1)))⟩, ⟨true, [(1, (L 4 e_api_Row a1))], (L 4 e_api_Row a1)⟩, ⟨true, [(5, (.v (.int .i64 x5_1)))], (.v (.int .i64 x5_1))⟩, ⟨true, [(21, (L 4 e_api_Row a1)), (22, (.v (.int .i64 x5_1)))], (.fp (e_api_Row (rd a1 x5_1)) 0)⟩, ⟨true, [(23, (.fp (e_api_Row (rd a1 x5_1)) 0))], (.agg (e_api_Row (rd a1 x5_1)))⟩, ⟨true, [(20, (.agg (e_api_Row (rd a0 x5_1)))), (24, (.agg (e_api_Row (rd a1 x5_1))))], (.v (.bool (!((rd a0 x5_1).URI == (rd a1 x5_1).URI && ((rd a0 x5_1).Name == (rd a1 x5_1).Name && ((rd a0 x5_1).State == (rd a1 x5_1).State && ((rd a0 x5_1).Body == (rd a1 x5_1).Body && true)))))))⟩] [[], [], [0, 1], [2], [], [], [4, 5], [6], [3, 7]] mixed (by kernel_rfl) ?_ ?_
        · refine TxtE.cons rfl ⟨.same _, trivial⟩ rfl (VOk.g (VOk.mv (d := (L 4 e_api_Row a0)) rfl rfl)) ?_
          refine TxtE.cons rfl ⟨.same _, trivial⟩ rfl (VOk.g (VOk.mv (d := (.v (.int .i64 x5_1))) rfl rfl)) ?_
          refine TxtE.cons rfl ⟨.same _, .same _, trivial⟩ rfl (VOk.g (VOk.indexL (sz := 4) (e := e_api_Row) (xs := a0) (i := x5_1) rfl Try.underlying28 sz43 rfl rfl c4)) ?_
          refine TxtE.cons rfl ⟨.same _, trivial⟩ rfl (VOk.g (VOk.to (d' := (.agg (e_api_Row (rd a0 x5_1)))) (.loadFpAgg rfl Try.underlying43 rfl sz43 rfl rfl) rfl)) ?_
          refine TxtE.cons rfl ⟨.same _, trivial⟩ rfl (VOk.g (VOk.mv (d := (L 4 e_api_Row a1)) rfl rfl)) ?_
          refine TxtE.cons rfl ⟨.same _, trivial⟩ rfl (VOk.g (VOk.mv (d := (.v (.int .i64 x5_1))) rfl rfl)) ?_
          refine TxtE.cons rfl ⟨.same _, .same _, trivial⟩ rfl (VOk.g (VOk.indexL (sz := 4) (e := e_api_Row) (xs := a1) (i := x5_1) rfl Try.underlying28 sz43 rfl rfl c5)) ?_
          refine TxtE.cons rfl ⟨.same _, trivial⟩ rfl (VOk.g (VOk.to (d' := (.agg (e_api_Row (rd a1 x5_1)))) (.loadFpAgg rfl Try.underlying43 rfl sz43 rfl rfl) rfl)) ?_
          refine TxtE.cons rfl ⟨.same _, .same _, trivial⟩ rfl (VOk.g (VOk.eqS' (op := .neq) (d := (.v (.bool (!((rd a0 x5_1).URI == (rd a1 x5_1).URI && ((rd a0 x5_1).Name == (rd a1 x5_1).Name && ((rd a0 x5_1).State == (rd a1 x5_1).State && ((rd a0 x5_1).Body == (rd a1 x5_1).Body && true)))))))) rfl (.inr rfl) (eqt43 9998) ag43 eg43 rfl rfl rfl rfl)) ?_
          exact .done (.mk ⟨.same _, .same _, .same _, .same _, trivial⟩ trivial)
        refine Ok.test (b := (!((rd a0 x5_1).URI == (rd a1 x5_1).URI && ((rd a0 x5_1).Name == (rd a1 x5_1).Name && ((rd a0 x5_1).State == (rd a1 x5_1).State && ((rd a0 x5_1).Body == (rd a1 x5_1).Body && true)))))) rfl (fun hb6 => ?_) (fun hb6 => ?_)
        · replace H := ifT H hb6
          refine Ok.seq ?_
          refine Ok.region (σ' := ⟨[(4, (.v (.bool false)))], []⟩) ?_ ?_
          · refine OpsOk.cons rfl (.v (VOk.asg (d := (.v (.bool false))) rfl rfl) rfl) ?_
            exact .done (.mk ⟨.same _, trivial⟩ trivial)
          refine Ok.le (σ' := ⟨[(4, (.v (.bool false)))], []⟩) (.mk ⟨.same _, trivial⟩ trivial) ?_
          refine Ok.ret ?_
          obtain rfl := Option.some.inj H
          exact ⟨.inl rfl, ⟨_, (.cons (.tmp rfl) .nil), rfl⟩, trivial⟩
        · replace H := ifF H hb6
          refine Ok.le (σ' := ⟨[(0, (L 4 e_api_Row a0)), (1, (L 4 e_api_Row a1)), (5, (.v (.int .i64 x5_1)))], []⟩) (.mk ⟨.same _, .same _, .same _, trivial⟩ trivial) ?_
          refine Ok.skip ?_
          refine Ok.region (σ' := ⟨[(0, (L 4 e_api_Row a0)), (1, (L 4 e_api_Row a1)), (5, (.v (.int .i64 (IntKind.i64.wrap (x5_1 + 1)))))], []⟩) ?_ ?_
          · refine OpsOk.cons rfl (.v (VOk.mv (d := (.v (.int .i64 x5_1))) rfl rfl) rfl) ?_
            refine OpsOk.cons rfl (.v (VOk.arith (op := .add) (k := .i64) (a := x5_1) (b := 1) rfl rfl rfl rfl) rfl) ?_
            refine OpsOk.cons rfl (.v (VOk.asg (d := (.v (.int .i64 (IntKind.i64.wrap (x5_1 + 1))))) rfl rfl) rfl) ?_
            exact .done (.mk ⟨.same _, .same _, .same _, trivial⟩ trivial)
          exact ⟨m3, Nat.lt_succ_self m3, (IntKind.i64.wrap (x5_1 + 1)), rfl, H⟩
      · replace H := ifF H hb7
        refine Ok.le (σ' := ⟨[], []⟩) (.mk trivial trivial) ?_
        refine Ok.exit ?_
        refine Ok.seq ?_
        refine Ok.region (σ' := ⟨[(4, (.v (.bool true)))], []⟩) ?_ ?_
        · refine OpsOk.cons rfl (.v (VOk.asg (d := (.v (.bool true))) rfl rfl) rfl) ?_
          exact .done (.mk ⟨.same _, trivial⟩ trivial)
        refine Ok.le (σ' := ⟨[(4, (.v (.bool true)))], []⟩) (.mk ⟨.same _, trivial⟩ trivial) ?_
        refine Ok.ret ?_
        obtain rfl := Option.some.inj H
        exact ⟨.inl rfl, ⟨_, (.cons (.tmp rfl) .nil), rfl⟩, trivial⟩

/-! watchbill/watchbilllaw27.SubsTakes: function 4 -/
def watchbilllaw27_SubsTakes.l0 (k : Nat) (a1 : List T_api_Body) : Nat → Int → Bool → Bool → Int → List T_api_Row → List T_api_Row → Int → Option Bool
  | 0, _, _, _, _, _, _, _ => none
  | m19 + 1, y17_0_9, y17_1_10, y6_0_6, y6_1_7, y6_2_8, y1342_11, x7_5 => (if (decide (x7_5 < (a1.length : Int))) = true then (if (0 : Int) ≤ x7_5 ∧ x7_5 < (a1.length : Int) then ((watchbilllaw27_few k ((rd a1 x7_5).Rows)).bind fun (t21 : Bool) => (if (!t21) = true then some true else (if (0 : Int) ≤ x7_5 ∧ x7_5 < (a1.length : Int) then ((subs_Client_Take k (T_subs_Client.mk y17_0_9 y17_1_10 y1342_11) (rd a1 x7_5)).bind fun (t24 : Int × T_subs_Client) => (if (0 : Int) ≤ x7_5 ∧ x7_5 < (a1.length : Int) then ((watchbillref27_Take k (T_watchbillref27_Client.mk y6_0_6 y6_1_7 y6_2_8) (rd a1 x7_5)).bind fun (t27 : T_watchbillref27_Client × Int) => (((if ((t24.1 != t27.2) == false) = true then subs_Client_Rows_o t24.2 else some default)).bind fun (t30 : (List T_api_Row)) => (((if ((t24.1 != t27.2) == false) = true then watchbillref24_Rows k t30 t27.1.Rows else some default)).bind fun (t32 : Bool) => (if ((t24.1 != t27.2) || (!t32)) = true then some false else watchbilllaw27_SubsTakes.l0 k a1 m19 t24.2.Next_ t24.2.Begun_ t27.1.Begun t27.1.Next t27.1.Rows t24.2.Rows_ (IntKind.i64.wrap (x7_5 + 1)))))) else none)) else none))) else none) else some true)
def watchbilllaw27_SubsTakes (k : Nat) (a0 : Int) (a1 : List T_api_Body) : Option Bool := ((watchbilllaw27_awake k).bind fun (t1 : Bool) => (if (!t1) = true then some false else (if (decide ((a1.length : Int) > 60)) = true then some true else ((subs_NewClient a0).bind fun (t3 : T_subs_Client) => watchbilllaw27_SubsTakes.l0 k a1 k t3.Next_ t3.Begun_ ((T_watchbillref27_Client.mk false (IntKind.u64.wrap a0) ([] : List T_api_Row)).Begun) ((T_watchbillref27_Client.mk false (IntKind.u64.wrap a0) ([] : List T_api_Row)).Next) ((T_watchbillref27_Client.mk false (IntKind.u64.wrap a0) ([] : List T_api_Row)).Rows) t3.Rows_ 0))))
theorem watchbilllaw27_SubsTakes.ok {k : Nat} {a0 : Int} {a1 : List T_api_Body} {r : Bool} (H : watchbilllaw27_SubsTakes k a0 a1 = some r) : Vx.Fn Try.prog 4 [(.v (.int .u32 a0)), (L 4 e_api_Body a1)] [] (.v (.bool r)) [] := by
  unfold watchbilllaw27_SubsTakes at H
  refine Vx.Fn.of_okR Try.func4 rfl (Nat.le_of_ble_eq_true rfl) ?_
  refine Ok.seq ?_
  refine Ok.region (σ' := ⟨[(0, (.v (.int .u32 a0))), (1, (L 4 e_api_Body a1))], []⟩) ?_ ?_
  · refine OpsOk.cons rfl (.v (VOk.asg (d := (.v (.bool false))) rfl rfl) rfl) ?_
    exact .done (.mk ⟨.same _, .same _, trivial⟩ trivial)
  refine Ok.seq ?_
  refine Ok.seq ?_
  obtain ⟨t1, h2, H⟩ := bindE H
  refine Ok.region (σ' := ⟨[(0, (.v (.int .u32 a0))), (1, (L 4 e_api_Body a1)), (12, (.v (.bool (!t1))))], []⟩) ?_ ?_
  · refine OpsOk.cons rfl (.g (GOk.call rfl rfl cl8 rfl (watchbilllaw27_awake.ok h2) rfl) rfl) ?_
    refine OpsOk.cons rfl (.v (VOk.not (b := t1) rfl rfl) rfl) ?_
    exact .done (.mk ⟨.same _, .same _, .same _, trivial⟩ trivial)
  refine Ok.test (b := (!t1)) rfl (fun hb39 => ?_) (fun hb39 => ?_)
  · replace H := ifT H hb39
    refine Ok.seq ?_
    refine Ok.region (σ' := ⟨[(4, (.v (.bool false)))], []⟩) ?_ ?_
    · refine OpsOk.cons rfl (.v (VOk.asg (d := (.v (.bool false))) rfl rfl) rfl) ?_
      exact .done (.mk ⟨.same _, trivial⟩ trivial)
    refine Ok.le (σ' := ⟨[(4, (.v (.bool false)))], []⟩) (.mk ⟨.same _, trivial⟩ trivial) ?_
    refine Ok.ret ?_
    obtain rfl := Option.some.inj H
    exact ⟨.inl rfl, ⟨_, (.cons (.tmp rfl) .nil), rfl⟩, trivial⟩
  · replace H := ifF H hb39
    refine Ok.le (σ' := ⟨[(0, (.v (.int .u32 a0))), (1, (L 4 e_api_Body a1))], []⟩) (.mk ⟨.same _, .same _, trivial⟩ trivial) ?_
    refine Ok.skip ?_
    refine Ok.seq ?_
    refine Ok.seq ?_
    refine Ok.region (σ' := ⟨[(0, (.v (.int .u32 a0))), (1, (L 4 e_api_Body a1)), (15, (.v (.bool (decide ((a1.length : Int) > 60)))))], []⟩) ?_ ?_
    · refine OpsOk.cons rfl (.v (VOk.mv (d := (L 4 e_api_Body a1)) rfl rfl) rfl) ?_
      refine OpsOk.cons rfl (.v (VOk.lenL (e := e_api_Body) (xs := a1) rfl Try.underlying45 rfl) rfl) ?_
      refine OpsOk.cons rfl (.v (VOk.arith (op := .gtr) (k := .i64) (a := (a1.length : Int)) (b := 60) rfl rfl rfl rfl) rfl) ?_
      exact .done (.mk ⟨.same _, .same _, .same _, trivial⟩ trivial)
    refine Ok.test (b := (decide ((a1.length : Int) > 60))) rfl (fun hb38 => ?_) (fun hb38 => ?_)
    · replace H := ifT H hb38
      refine Ok.seq ?_
      refine Ok.region (σ' := ⟨[(4, (.v (.bool true)))], []⟩) ?_ ?_
      · refine OpsOk.cons rfl (.v (VOk.asg (d := (.v (.bool true))) rfl rfl) rfl) ?_
        exact .done (.mk ⟨.same _, trivial⟩ trivial)
      refine Ok.le (σ' := ⟨[(4, (.v (.bool true)))], []⟩) (.mk ⟨.same _, trivial⟩ trivial) ?_
      refine Ok.ret ?_
      obtain rfl := Option.some.inj H
      exact ⟨.inl rfl, ⟨_, (.cons (.tmp rfl) .nil), rfl⟩, trivial⟩
    · replace H := ifF H hb38
      refine Ok.le (σ' := ⟨[(0, (.v (.int .u32 a0))), (1, (L 4 e_api_Body a1))], []⟩) (.mk ⟨.same _, .same _, trivial⟩ trivial) ?_
      refine Ok.skip ?_
      refine Ok.seq ?_
      obtain ⟨t3, h4, H⟩ := bindE H
      refine Ok.region (σ' := ⟨[(0, (.v (.int .u32 a0))), (1, (L 4 e_api_Body a1)), (5, (.bref 17 0))], [(17, (.box .ex [(.v (.int .u64 t3.Next_)), (.v (.bool t3.Begun_)), (.sref 1342)])), (1342, (.rows true 43 4 (t3.Rows_.map e_api_Row)))]⟩) ?_ ?_
      · refine OpsOk.cons rfl (.v (VOk.mv (d := (.v (.int .u32 a0))) rfl rfl) rfl) ?_
        refine OpsOk.cons rfl (OpOk.callP 17 1342 rfl rfl cl15 (subs_NewClient.ok h4) rfl rfl rfl rfl) ?_
        refine OpsOk.cons rfl (.v (VOk.asg (d := (.bref 17 0)) rfl rfl) rfl) ?_
        exact .done (.mk ⟨.same _, .same _, .same _, trivial⟩ ⟨.same _, .same _, trivial⟩)
      refine Ok.seq ?_
      refine Ok.region (σ' := ⟨[(1, (L 4 e_api_Body a1)), (5, (.bref 17 0)), (6, (.bref 6 0))], [(6, (.box .ex [(.v (.bool ((T_watchbillref27_Client.mk false (IntKind.u64.wrap a0) ([] : List T_api_Row)).Begun))), (.v (.int .u64 ((T_watchbillref27_Client.mk false (IntKind.u64.wrap a0) ([] : List T_api_Row)).Next))), (L 4 e_api_Row ((T_watchbillref27_Client.mk false (IntKind.u64.wrap a0) ([] : List T_api_Row)).Rows))])), (17, (.box .ex [(.v (.int .u64 t3.Next_)), (.v (.bool t3.Begun_)), (.sref 1342)])), (1342, (.rows true 43 4 (t3.Rows_.map e_api_Row)))]⟩) ?_ ?_
      · refine OpsOk.cons rfl (.v (VOk.mv (d := (.v (.int .u32 a0))) rfl rfl) rfl) ?_
        refine OpsOk.cons rfl (.v (VOk.convInt (a := a0) rfl (by rw [Try.underlying22]; rfl) Try.underlying48 rfl) rfl) ?_
        refine OpsOk.cons rfl (.v (VOk.to (d' := (.agg (e_watchbillref27_Client (T_watchbillref27_Client.mk false (IntKind.u64.wrap a0) ([] : List T_api_Row))))) (.build [none, none, some 4] [(0, 1), (1, 1), (2, 1)] rfl Try.underlying50 (fa50 Try.underlying50) zo50 rfl rfl) rfl) rfl) ?_
        refine OpsOk.cons rfl (OpOk.alloc 6 [none, none, some 4] rfl zo50 rfl rfl) ?_
        refine OpsOk.cons rfl (OpOk.to (σ2 := St.put ⟨_, (6, (.box .ex [(.v (.bool ((T_watchbillref27_Client.mk false (IntKind.u64.wrap a0) ([] : List T_api_Row)).Begun))), (.v (.int .u64 ((T_watchbillref27_Client.mk false (IntKind.u64.wrap a0) ([] : List T_api_Row)).Next))), (L 4 e_api_Row ((T_watchbillref27_Client.mk false (IntKind.u64.wrap a0) ([] : List T_api_Row)).Rows))])) :: _⟩ _ .junk) (.storeB rfl sz50 rfl rfl rfl rfl rfl rfl) rfl) ?_
        exact .done (.mk ⟨.same _, .same _, .same _, trivial⟩ ⟨.same _, .same _, .same _, trivial⟩)
      refine Ok.seq ?_
      refine Ok.seq ?_
      refine Ok.region (σ' := ⟨[(1, (L 4 e_api_Body a1)), (5, (.bref 17 0)), (6, (.bref 6 0)), (7, (.v (.int .i64 0)))], [(6, (.box .ex [(.v (.bool ((T_watchbillref27_Client.mk false (IntKind.u64.wrap a0) ([] : List T_api_Row)).Begun))), (.v (.int .u64 ((T_watchbillref27_Client.mk false (IntKind.u64.wrap a0) ([] : List T_api_Row)).Next))), (L 4 e_api_Row ((T_watchbillref27_Client.mk false (IntKind.u64.wrap a0) ([] : List T_api_Row)).Rows))])), (17, (.box .ex [(.v (.int .u64 t3.Next_)), (.v (.bool t3.Begun_)), (.sref 1342)])), (1342, (.rows true 43 4 (t3.Rows_.map e_api_Row)))]⟩) ?_ ?_
      · refine OpsOk.cons rfl (.v (VOk.asg (d := (.v (.int .i64 0))) rfl rfl) rfl) ?_
        exact .done (.mk ⟨.same _, .same _, .same _, .same _, trivial⟩ ⟨.same _, .same _, .same _, trivial⟩)
      refine Ok.block ?_
      refine Ok.le (σ' := ⟨[(1, (L 4 e_api_Body a1)), (5, (.bref 17 0)), (6, (.bref 6 0)), (7, (.v (.int .i64 0)))], [(6, (.box .ex [(.v (.bool ((T_watchbillref27_Client.mk false (IntKind.u64.wrap a0) ([] : List T_api_Row)).Begun))), (.v (.int .u64 ((T_watchbillref27_Client.mk false (IntKind.u64.wrap a0) ([] : List T_api_Row)).Next))), (L 4 e_api_Row ((T_watchbillref27_Client.mk false (IntKind.u64.wrap a0) ([] : List T_api_Row)).Rows))])), (17, (.box .ex [(.v (.int .u64 t3.Next_)), (.v (.bool t3.Begun_)), (.sref 1342)])), (1342, (.rows true 43 4 (t3.Rows_.map e_api_Row)))]⟩) (.mk ⟨.same _, .same _, .same _, .same _, trivial⟩ ⟨.same _, .same _, .same _, trivial⟩) ?_
      refine Ok.loop (fun m19 σ => ∃ (y17_0_9 : Int) (y17_1_10 : Bool) (y6_0_6 : Bool) (y6_1_7 : Int) (y6_2_8 : List T_api_Row) (y1342_11 : List T_api_Row) (x7_5 : Int), σ = ⟨[(1, (L 4 e_api_Body a1)), (5, (.bref 17 0)), (6, (.bref 6 0)), (7, (.v (.int .i64 x7_5)))], [(6, (.box .ex [(.v (.bool y6_0_6)), (.v (.int .u64 y6_1_7)), (L 4 e_api_Row y6_2_8)])), (17, (.box .ex [(.v (.int .u64 y17_0_9)), (.v (.bool y17_1_10)), (.sref 1342)])), (1342, (.rows true 43 4 (y1342_11.map e_api_Row)))]⟩ ∧ watchbilllaw27_SubsTakes.l0 k a1 m19 y17_0_9 y17_1_10 y6_0_6 y6_1_7 y6_2_8 y1342_11 x7_5 = some r) k ⟨t3.Next_, t3.Begun_, ((T_watchbillref27_Client.mk false (IntKind.u64.wrap a0) ([] : List T_api_Row)).Begun), ((T_watchbillref27_Client.mk false (IntKind.u64.wrap a0) ([] : List T_api_Row)).Next), ((T_watchbillref27_Client.mk false (IntKind.u64.wrap a0) ([] : List T_api_Row)).Rows), t3.Rows_, 0, rfl, H⟩ ?_
      rintro m19 σ ⟨y17_0_9, y17_1_10, y6_0_6, y6_1_7, y6_2_8, y1342_11, x7_5, rfl, H⟩
      cases m19 with
      | zero => exact absurd H (by simp [watchbilllaw27_SubsTakes.l0])
      | succ m19 =>
        unfold watchbilllaw27_SubsTakes.l0 at H
        refine Ok.seq ?_
        refine Ok.seq ?_
        refine Ok.region (σ' := ⟨[(1, (L 4 e_api_Body a1)), (5, (.bref 17 0)), (6, (.bref 6 0)), (7, (.v (.int .i64 x7_5))), (24, (.v (.bool (decide (x7_5 < (a1.length : Int))))))], [(6, (.box .ex [(.v (.bool y6_0_6)), (.v (.int .u64 y6_1_7)), (L 4 e_api_Row y6_2_8)])), (17, (.box .ex [(.v (.int .u64 y17_0_9)), (.v (.bool y17_1_10)), (.sref 1342)])), (1342, (.rows true 43 4 (y1342_11.map e_api_Row)))]⟩) ?_ ?_
        · refine OpsOk.cons rfl (.v (VOk.mv (d := (.v (.int .i64 x7_5))) rfl rfl) rfl) ?_
          refine OpsOk.cons rfl (.v (VOk.mv (d := (L 4 e_api_Body a1)) rfl rfl) rfl) ?_
          refine OpsOk.cons rfl (.v (VOk.lenL (e := e_api_Body) (xs := a1) rfl Try.underlying45 rfl) rfl) ?_
          refine OpsOk.cons rfl (.v (VOk.arith (op := .lss) (k := .i64) (a := x7_5) (b := (a1.length : Int)) rfl rfl rfl rfl) rfl) ?_
          exact .done (.mk ⟨.same _, .same _, .same _, .same _, .same _, trivial⟩ ⟨.same _, .same _, .same _, trivial⟩)
        refine Ok.test (b := (decide (x7_5 < (a1.length : Int)))) rfl (fun hb37 => ?_) (fun hb37 => ?_)
        · replace H := ifT H hb37
          refine Ok.le (σ' := ⟨[(1, (L 4 e_api_Body a1)), (5, (.bref 17 0)), (6, (.bref 6 0)), (7, (.v (.int .i64 x7_5)))], [(6, (.box .ex [(.v (.bool y6_0_6)), (.v (.int .u64 y6_1_7)), (L 4 e_api_Row y6_2_8)])), (17, (.box .ex [(.v (.int .u64 y17_0_9)), (.v (.bool y17_1_10)), (.sref 1342)])), (1342, (.rows true 43 4 (y1342_11.map e_api_Row)))]⟩) (.mk ⟨.same _, .same _, .same _, .same _, trivial⟩ ⟨.same _, .same _, .same _, trivial⟩) ?_
          refine Ok.skip ?_
          refine Ok.seq ?_
          refine Ok.block ?_
          refine Ok.seq ?_
          refine Ok.seq ?_
          obtain ⟨c20, H⟩ := assertE H
          obtain ⟨t21, h22, H⟩ := bindE H
          refine Ok.region (σ' := ⟨[(1, (L 4 e_api_Body a1)), (5, (.bref 17 0)), (6, (.bref 6 0)), (7, (.v (.int .i64 x7_5))), (33, (.v (.bool (!t21))))], [(6, (.box .ex [(.v (.bool y6_0_6)), (.v (.int .u64 y6_1_7)), (L 4 e_api_Row y6_2_8)])), (17, (.box .ex [(.v (.int .u64 y17_0_9)), (.v (.bool y17_1_10)), (.sref 1342)])), (1342, (.rows true 43 4 (y1342_11.map e_api_Row)))]⟩) ?_ ?_
          · refine OpsOk.cons rfl (.v (VOk.mv (d := (L 4 e_api_Body a1)) rfl rfl) rfl) ?_
            refine OpsOk.cons rfl (.v (VOk.mv (d := (.v (.int .i64 x7_5))) rfl rfl) rfl) ?_
            refine OpsOk.cons rfl (.v (VOk.indexL (sz := 4) (e := e_api_Body) (xs := a1) (i := x7_5) rfl Try.underlying45 sz34 rfl rfl c20) rfl) ?_
            refine OpsOk.cons rfl (.v (VOk.to (VOk.fieldFp rfl Try.underlying34 rfl sz28 rfl) rfl) rfl) ?_
            refine OpsOk.cons rfl (.v (VOk.loadFp (d := (L 4 e_api_Row ((rd a1 x7_5).Rows))) rfl Try.underlying28 rfl rfl rfl) rfl) ?_
            refine OpsOk.cons rfl (.g (GOk.call rfl rfl cl16 rfl (watchbilllaw27_few.ok h22) rfl) rfl) ?_
            refine OpsOk.cons rfl (.v (VOk.not (b := t21) rfl rfl) rfl) ?_
            exact .done (.mk ⟨.same _, .same _, .same _, .same _, .same _, trivial⟩ ⟨.same _, .same _, .same _, trivial⟩)
          refine Ok.test (b := (!t21)) rfl (fun hb36 => ?_) (fun hb36 => ?_)
          · replace H := ifT H hb36
            refine Ok.seq ?_
            refine Ok.region (σ' := ⟨[(4, (.v (.bool true)))], []⟩) ?_ ?_
            · refine OpsOk.cons rfl (.v (VOk.asg (d := (.v (.bool true))) rfl rfl) rfl) ?_
              exact .done (.mk ⟨.same _, trivial⟩ trivial)
            refine Ok.le (σ' := ⟨[(4, (.v (.bool true)))], []⟩) (.mk ⟨.same _, trivial⟩ trivial) ?_
            refine Ok.ret ?_
            obtain rfl := Option.some.inj H
            exact ⟨.inl rfl, ⟨_, (.cons (.tmp rfl) .nil), rfl⟩, trivial⟩
          · replace H := ifF H hb36
            refine Ok.le (σ' := ⟨[(1, (L 4 e_api_Body a1)), (5, (.bref 17 0)), (6, (.bref 6 0)), (7, (.v (.int .i64 x7_5)))], [(6, (.box .ex [(.v (.bool y6_0_6)), (.v (.int .u64 y6_1_7)), (L 4 e_api_Row y6_2_8)])), (17, (.box .ex [(.v (.int .u64 y17_0_9)), (.v (.bool y17_1_10)), (.sref 1342)])), (1342, (.rows true 43 4 (y1342_11.map e_api_Row)))]⟩) (.mk ⟨.same _, .same _, .same _, .same _, trivial⟩ ⟨.same _, .same _, .same _, trivial⟩) ?_
            refine Ok.skip ?_
            refine Ok.seq ?_
            obtain ⟨c23, H⟩ := assertE H
            obtain ⟨t24, h25, H⟩ := bindE H
            refine Ok.region (σ' := ⟨[(1, (L 4 e_api_Body a1)), (5, (.bref 17 0)), (6, (.bref 6 0)), (7, (.v (.int .i64 x7_5))), (8, (.v (.int .i64 t24.1)))], [(6, (.box .ex [(.v (.bool y6_0_6)), (.v (.int .u64 y6_1_7)), (L 4 e_api_Row y6_2_8)])), (17, (.box .ex [(.v (.int .u64 t24.2.Next_)), (.v (.bool t24.2.Begun_)), (.sref 1342)])), (1342, (.rows true 43 4 (t24.2.Rows_.map e_api_Row)))]⟩) ?_ ?_
            · refine OpsOk.cons rfl (.v (VOk.mv (d := (.bref 17 0)) rfl rfl) rfl) ?_
              refine OpsOk.cons rfl (.v (VOk.mv (d := (L 4 e_api_Body a1)) rfl rfl) rfl) ?_
              refine OpsOk.cons rfl (.v (VOk.mv (d := (.v (.int .i64 x7_5))) rfl rfl) rfl) ?_
              refine OpsOk.cons rfl (.v (VOk.indexL (sz := 4) (e := e_api_Body) (xs := a1) (i := x7_5) rfl Try.underlying45 sz34 rfl rfl c23) rfl) ?_
              refine OpsOk.cons rfl (.v (VOk.to (d' := (.agg (e_api_Body (rd a1 x7_5)))) (.loadFpAgg rfl Try.underlying34 rfl sz34 rfl rfl) rfl) rfl) ?_
              refine OpsOk.cons rfl (OpOk.callT 17 1342 939 rfl rfl cl17 (fun b => ((subs_Client_Take.ok h25) b)) rfl rfl rfl rfl rfl rfl rfl rfl) ?_
              refine OpsOk.cons rfl (.v (VOk.asg (d := (.v (.int .i64 t24.1))) rfl rfl) rfl) ?_
              exact .done (.mk ⟨.same _, .same _, .same _, .same _, .same _, trivial⟩ ⟨.same _, .same _, .same _, trivial⟩)
            refine Ok.seq ?_
            obtain ⟨c26, H⟩ := assertE H
            obtain ⟨t27, h28, H⟩ := bindE H
            refine Ok.le (σ' := ⟨[(1, (L 4 e_api_Body a1)), (5, (.bref 17 0)), (6, (.bref 6 0)), (7, (.v (.int .i64 x7_5))), (8, (.v (.int .i64 t24.1)))], [(6, (.box .ex [(.v (.bool y6_0_6)), (.v (.int .u64 y6_1_7)), (L 4 e_api_Row y6_2_8)])), (17, (.box .ex [(.v (.int .u64 t24.2.Next_)), (.v (.bool t24.2.Begun_)), (.sref 1342)])), (1342, (.rows true 43 4 (t24.2.Rows_.map e_api_Row)))]⟩) (.mk ⟨.same _, .same _, .same _, .same _, .same _, trivial⟩ ⟨.same _, .same _, .same _, trivial⟩) ?_
            refine Ok.drawE2 (σ' := ⟨[(1, (L 4 e_api_Body a1)), (5, (.bref 17 0)), (6, (.bref 6 0)), (7, (.v (.int .i64 x7_5))), (8, (.v (.int .i64 t24.1))), (9, (.bref 9 0)), (10, (.v (.int .i64 t27.2)))], [(6, (.box .ex [(.v (.bool y6_0_6)), (.v (.int .u64 y6_1_7)), (L 4 e_api_Row y6_2_8)])), (9, (.box .ex [(.v (.bool t27.1.Begun)), (.v (.int .u64 t27.1.Next)), (L 4 e_api_Row t27.1.Rows)])), (17, (.box .ex [(.v (.int .u64 t24.2.Next_)), (.v (.bool t24.2.Begun_)), (.sref 1342)])), (1342, (.rows true 43 4 (t24.2.Rows_.map e_api_Row)))]⟩) [⟨true, [(6, (.bref 6 0))], [(6, (.box .ex [(.v (.bool y6_0_6)), (.v (.int .u64 y6_1_7)), (L 4 e_api_Row y6_2_8)]))], (.agg (e_watchbillref27_Client (T_watchbillref27_Client.mk y6_0_6 y6_1_7 y6_2_8))), [], false, []⟩, ⟨true, [(1, (L 4 e_api_Body a1))], [], (L 4 e_api_Body a1), [], false, []⟩, ⟨true, [(7, (.v (.int .i64 x7_5)))], [], (.v (.int .i64 x7_5)), [], false, []⟩, ⟨true, [(42, (L 4 e_api_Body a1)), (43, (.v (.int .i64 x7_5)))], [], (.fp (e_api_Body (rd a1 x7_5)) 0), [], false, []⟩, ⟨true, [(44, (.fp (e_api_Body (rd a1 x7_5)) 0))], [], (.agg (e_api_Body (rd a1 x7_5))), [], false, []⟩, ⟨true, [(41, (.agg (e_watchbillref27_Client (T_watchbillref27_Client.mk y6_0_6 y6_1_7 y6_2_8)))), (45, (.agg (e_api_Body (rd a1 x7_5))))], [], (.tup [(.agg (e_watchbillref27_Client t27.1)), (.v (.int .i64 t27.2))]), [], false, []⟩, ⟨true, [(46, (.tup [(.agg (e_watchbillref27_Client t27.1)), (.v (.int .i64 t27.2))]))], [], (.tup [(.agg (e_watchbillref27_Client t27.1)), (.v (.int .i64 t27.2))]), [], false, []⟩, ⟨true, [(40, (.tup [(.agg (e_watchbillref27_Client t27.1)), (.v (.int .i64 t27.2))]))], [], (.agg (e_watchbillref27_Client t27.1)), [], false, []⟩, ⟨true, [(40, (.tup [(.agg (e_watchbillref27_Client t27.1)), (.v (.int .i64 t27.2))]))], [], (.v (.int .i64 t27.2)), [], false, []⟩, ⟨true, [], [], (.bref 9 0), [(9, (.box .ex [(.v (.bool false)), (.v (.int .u64 0)), (L 4 e_api_Row ([] : List T_api_Row))]))], true, []⟩, ⟨true, [(9, (.bref 9 0)), (47, (.agg (e_watchbillref27_Client t27.1)))], [(9, (.box .ex [(.v (.bool false)), (.v (.int .u64 0)), (L 4 e_api_Row ([] : List T_api_Row))]))], .junk, [(9, (.box .ex [(.v (.bool t27.1.Begun)), (.v (.int .u64 t27.1.Next)), (L 4 e_api_Row t27.1.Rows)]))], false, []⟩, ⟨true, [(48, (.v (.int .i64 t27.2)))], [], (.v (.int .i64 t27.2)), [], false, []⟩] [[], [], [], [1, 2], [3], [0, 4], [5], [6], [6], [], [7, 9], [8]] mixed (by kernel_rfl) ?_ ?_
            · refine TxtE2.cons ⟨.same _, trivial⟩ ⟨rfl, trivial⟩ (It2.val rfl rfl (fun T hT => (VOk.g (VOk.to (d' := (.agg (e_watchbillref27_Client (T_watchbillref27_Client.mk y6_0_6 y6_1_7 y6_2_8)))) (.loadBAgg rfl Try.underlying50 rfl sz50 rfl hT.1 rfl) rfl)))) ?_
              refine TxtE2.cons ⟨.same _, trivial⟩ trivial (It2.val rfl rfl (fun T hT => (VOk.g (VOk.mv (d := (L 4 e_api_Body a1)) rfl rfl)))) ?_
              refine TxtE2.cons ⟨.same _, trivial⟩ trivial (It2.val rfl rfl (fun T hT => (VOk.g (VOk.mv (d := (.v (.int .i64 x7_5))) rfl rfl)))) ?_
              refine TxtE2.cons ⟨.same _, .same _, trivial⟩ trivial (It2.val rfl rfl (fun T hT => (VOk.g (VOk.indexL (sz := 4) (e := e_api_Body) (xs := a1) (i := x7_5) rfl Try.underlying45 sz34 rfl rfl c26)))) ?_
              refine TxtE2.cons ⟨.same _, trivial⟩ trivial (It2.val rfl rfl (fun T hT => (VOk.g (VOk.to (d' := (.agg (e_api_Body (rd a1 x7_5)))) (.loadFpAgg rfl Try.underlying34 rfl sz34 rfl rfl) rfl)))) ?_
              refine TxtE2.cons ⟨.same _, .same _, trivial⟩ trivial (It2.val rfl rfl (fun T hT => (GOk.call rfl rfl cl18 rfl (watchbillref27_Take.ok h28) rfl))) ?_
              refine TxtE2.cons ⟨.same _, trivial⟩ trivial (It2.val rfl rfl (fun T hT => (VOk.g (VOk.mv (d := (.tup [(.agg (e_watchbillref27_Client t27.1)), (.v (.int .i64 t27.2))])) rfl rfl)))) ?_
              refine TxtE2.cons ⟨.same _, trivial⟩ trivial (It2.val rfl rfl (fun T hT => (VOk.g (VOk.extract (d := (.agg (e_watchbillref27_Client t27.1))) rfl rfl rfl)))) ?_
              refine TxtE2.cons ⟨.same _, trivial⟩ trivial (It2.val rfl rfl (fun T hT => (VOk.g (VOk.extract (d := (.v (.int .i64 t27.2))) rfl rfl rfl)))) ?_
              refine TxtE2.cons trivial trivial (It2.alloc 9 [none, none, some 4] rfl rfl zo50 rfl rfl) ?_
              refine TxtE2.cons ⟨.same _, .same _, trivial⟩ ⟨rfl, trivial⟩ (It2.store rfl rfl sz50 rfl rfl rfl rfl rfl rfl rfl rfl) ?_
              refine TxtE2.cons ⟨.same _, trivial⟩ trivial (It2.val rfl rfl (fun T hT => (VOk.g (VOk.asg (d := (.v (.int .i64 t27.2))) rfl rfl)))) ?_
              exact .done (.mk ⟨.same _, .same _, .same _, .same _, .same _, .same _, .same _, trivial⟩ ⟨.same _, .same _, .same _, .same _, trivial⟩)
            refine Ok.seq ?_
            refine Ok.region (σ' := ⟨[(1, (L 4 e_api_Body a1)), (5, (.bref 17 0)), (6, (.bref 6 0)), (7, (.v (.int .i64 x7_5))), (8, (.v (.int .i64 t24.1))), (10, (.v (.int .i64 t27.2)))], [(6, (.box .ex [(.v (.bool t27.1.Begun)), (.v (.int .u64 t27.1.Next)), (L 4 e_api_Row t27.1.Rows)])), (17, (.box .ex [(.v (.int .u64 t24.2.Next_)), (.v (.bool t24.2.Begun_)), (.sref 1342)])), (1342, (.rows true 43 4 (t24.2.Rows_.map e_api_Row)))]⟩) ?_ ?_
            · refine OpsOk.cons rfl (.v (VOk.to (d' := (.agg (e_watchbillref27_Client t27.1))) (.loadBAgg rfl Try.underlying50 rfl sz50 rfl rfl rfl) rfl) rfl) ?_
              refine OpsOk.cons rfl (OpOk.to (σ2 := St.put ⟨_, (6, (.box .ex [(.v (.bool t27.1.Begun)), (.v (.int .u64 t27.1.Next)), (L 4 e_api_Row t27.1.Rows)])) :: _⟩ _ .junk) (.storeB rfl sz50 rfl rfl rfl rfl rfl rfl) rfl) ?_
              exact .done (.mk ⟨.same _, .same _, .same _, .same _, .same _, .same _, trivial⟩ ⟨.same _, .same _, .same _, trivial⟩)
            refine Ok.seq ?_
            obtain ⟨t30, h31, H⟩ := bindE H
            obtain ⟨t32, h33, H⟩ := bindE H
            refine Ok.drawE (σ' := ⟨[(1, (L 4 e_api_Body a1)), (5, (.bref 17 0)), (6, (.bref 6 0)), (7, (.v (.int .i64 x7_5))), (60, (.v (.bool ((t24.1 != t27.2) || (!t32)))))], [(6, (.box .ex [(.v (.bool t27.1.Begun)), (.v (.int .u64 t27.1.Next)), (L 4 e_api_Row t27.1.Rows)])), (17, (.box .ex [(.v (.int .u64 t24.2.Next_)), (.v (.bool t24.2.Begun_)), (.sref 1342)])), (1342, (.rows true 43 4 (t24.2.Rows_.map e_api_Row)))]⟩) [⟨true, [(8, (.v (.int .i64 t24.1)))], (.v (.int .i64 t24.1))⟩, ⟨true, [(10, (.v (.int .i64 t27.2)))], (.v (.int .i64 t27.2))⟩, ⟨true, [(50, (.v (.int .i64 t24.1))), (51, (.v (.int .i64 t27.2)))], (.v (.bool (t24.1 != t27.2)))⟩, ⟨true, [(52, (.v (.bool (t24.1 != t27.2))))], (.v (.bool (t24.1 != t27.2)))⟩, It.I ((t24.1 != t27.2) == false) [(5, (.bref 17 0)), (53, (.v (.bool (t24.1 != t27.2))))] (.bref 17 0), It.I ((t24.1 != t27.2) == false) [(54, (bif ((t24.1 != t27.2) == false) then (.bref 17 0) else .v undef)), (53, (.v (.bool (t24.1 != t27.2))))] (L 4 e_api_Row t30), It.I ((t24.1 != t27.2) == false) [(6, (.bref 6 0)), (53, (.v (.bool (t24.1 != t27.2))))] (.bref 6 2), It.I ((t24.1 != t27.2) == false) [(56, (bif ((t24.1 != t27.2) == false) then (.bref 6 2) else .v undef)), (53, (.v (.bool (t24.1 != t27.2))))] (L 4 e_api_Row t27.1.Rows), It.I ((t24.1 != t27.2) == false) [(55, (bif ((t24.1 != t27.2) == false) then (L 4 e_api_Row t30) else .v undef)), (57, (bif ((t24.1 != t27.2) == false) then (L 4 e_api_Row t27.1.Rows) else .v undef)), (53, (.v (.bool (t24.1 != t27.2))))] (.v (.bool t32)), It.I ((t24.1 != t27.2) == false) [(58, (bif ((t24.1 != t27.2) == false) then (.v (.bool t32)) else .v undef)), (53, (.v (.bool (t24.1 != t27.2))))] (.v (.bool (!t32))), ⟨true, [(53, (.v (.bool (t24.1 != t27.2)))), (59, (bif ((t24.1 != t27.2) == false) then (.v (.bool (!t32))) else .v undef))], (.v (.bool ((t24.1 != t27.2) || (!t32))))⟩] [[], [], [0, 1], [2], [3], [3, 4], [3], [3, 6], [3, 5, 7], [3, 8], [3, 9]] mixed (by kernel_rfl) ?_ ?_
            · refine TxtE.cons rfl ⟨.same _, trivial⟩ rfl (VOk.g (VOk.mv (d := (.v (.int .i64 t24.1))) rfl rfl)) ?_
              refine TxtE.cons rfl ⟨.same _, trivial⟩ rfl (VOk.g (VOk.mv (d := (.v (.int .i64 t27.2))) rfl rfl)) ?_
              refine TxtE.cons rfl ⟨.same _, .same _, trivial⟩ rfl (VOk.g (VOk.arith (op := .neq) (k := .i64) (a := t24.1) (b := t27.2) rfl rfl rfl rfl)) ?_
              refine TxtE.cons rfl ⟨.same _, trivial⟩ rfl (VOk.g (VOk.mv (d := (.v (.bool (t24.1 != t27.2)))) rfl rfl)) ?_
              refine TxtE.consI rfl ⟨.same _, .same _, trivial⟩ rfl rfl (.one rfl) (fun hw29 => (VOk.g (VOk.mv (d := (.bref 17 0)) rfl rfl))) ?_
              refine TxtE.consI rfl ⟨.same _, .same _, trivial⟩ rfl rfl (.one rfl) (fun hw29 => (GOk.fr (fr' := [(54, (.bref 17 0))]) ⟨DLe.of_eq (cT hw29).symm, trivial⟩ (GOk.callLV (rows := t30.map e_api_Row) rfl rfl cl20 rfl (subs_Client_Rows_o.ok (ifT h31 hw29)) (fun r hr => by obtain ⟨x, _, rfl⟩ := List.mem_map.1 hr; exact pl43 x)))) ?_
              refine TxtE.consI rfl ⟨.same _, .same _, trivial⟩ rfl rfl (.one rfl) (fun hw29 => (VOk.g (VOk.to (VOk.fieldB rfl Try.underlying50 rfl sz28 rfl rfl) rfl))) ?_
              refine TxtE.consI rfl ⟨.same _, .same _, trivial⟩ rfl rfl (.one rfl) (fun hw29 => (GOk.fr (fr' := [(56, (.bref 6 2))]) ⟨DLe.of_eq (cT hw29).symm, trivial⟩ (VOk.g (VOk.loadB (d := (L 4 e_api_Row t27.1.Rows)) rfl Try.underlying28 rfl rfl rfl rfl)))) ?_
              refine TxtE.consI rfl ⟨.same _, .same _, .same _, trivial⟩ rfl rfl (.one rfl) (fun hw29 => (GOk.fr (fr' := [(55, (L 4 e_api_Row t30)), (57, (L 4 e_api_Row t27.1.Rows))]) ⟨DLe.of_eq (cT hw29).symm, DLe.of_eq (cT hw29).symm, trivial⟩ (GOk.call rfl rfl cl19 rfl (watchbillref24_Rows.ok (ifT h33 hw29)) rfl))) ?_
              refine TxtE.consI rfl ⟨.same _, .same _, trivial⟩ rfl rfl (.one rfl) (fun hw29 => (GOk.fr (fr' := [(58, (.v (.bool t32)))]) ⟨DLe.of_eq (cT hw29).symm, trivial⟩ (VOk.g (VOk.not (b := t32) rfl rfl)))) ?_
              refine TxtE.cons rfl ⟨.same _, .same _, trivial⟩ rfl (VOk.g (VOk.to (VOk.pickI (b := (t24.1 != t27.2)) (p := true) (q := (!t32)) rfl rfl (fun hp34 => rfl) (fun hp34 => (cT (f_beq hp34)))) (pickOr (t24.1 != t27.2) (!t32)))) ?_
              exact .done (.mk ⟨.same _, .same _, .same _, .same _, .same _, trivial⟩ ⟨.same _, .same _, .same _, trivial⟩)
            refine Ok.test (b := ((t24.1 != t27.2) || (!t32))) rfl (fun hb35 => ?_) (fun hb35 => ?_)
            · replace H := ifT H hb35
              refine Ok.seq ?_
              refine Ok.region (σ' := ⟨[(4, (.v (.bool false)))], []⟩) ?_ ?_
              · refine OpsOk.cons rfl (.v (VOk.asg (d := (.v (.bool false))) rfl rfl) rfl) ?_
                exact .done (.mk ⟨.same _, trivial⟩ trivial)
              refine Ok.le (σ' := ⟨[(4, (.v (.bool false)))], []⟩) (.mk ⟨.same _, trivial⟩ trivial) ?_
              refine Ok.ret ?_
              obtain rfl := Option.some.inj H
              exact ⟨.inl rfl, ⟨_, (.cons (.tmp rfl) .nil), rfl⟩, trivial⟩
            · replace H := ifF H hb35
              refine Ok.le (σ' := ⟨[(1, (L 4 e_api_Body a1)), (5, (.bref 17 0)), (6, (.bref 6 0)), (7, (.v (.int .i64 x7_5)))], [(6, (.box .ex [(.v (.bool t27.1.Begun)), (.v (.int .u64 t27.1.Next)), (L 4 e_api_Row t27.1.Rows)])), (17, (.box .ex [(.v (.int .u64 t24.2.Next_)), (.v (.bool t24.2.Begun_)), (.sref 1342)])), (1342, (.rows true 43 4 (t24.2.Rows_.map e_api_Row)))]⟩) (.mk ⟨.same _, .same _, .same _, .same _, trivial⟩ ⟨.same _, .same _, .same _, trivial⟩) ?_
              refine Ok.skip ?_
              refine Ok.region (σ' := ⟨[(1, (L 4 e_api_Body a1)), (5, (.bref 17 0)), (6, (.bref 6 0)), (7, (.v (.int .i64 (IntKind.i64.wrap (x7_5 + 1)))))], [(6, (.box .ex [(.v (.bool t27.1.Begun)), (.v (.int .u64 t27.1.Next)), (L 4 e_api_Row t27.1.Rows)])), (17, (.box .ex [(.v (.int .u64 t24.2.Next_)), (.v (.bool t24.2.Begun_)), (.sref 1342)])), (1342, (.rows true 43 4 (t24.2.Rows_.map e_api_Row)))]⟩) ?_ ?_
              · refine OpsOk.cons rfl (.v (VOk.mv (d := (.v (.int .i64 x7_5))) rfl rfl) rfl) ?_
                refine OpsOk.cons rfl (.v (VOk.arith (op := .add) (k := .i64) (a := x7_5) (b := 1) rfl rfl rfl rfl) rfl) ?_
                refine OpsOk.cons rfl (.v (VOk.asg (d := (.v (.int .i64 (IntKind.i64.wrap (x7_5 + 1))))) rfl rfl) rfl) ?_
                exact .done (.mk ⟨.same _, .same _, .same _, .same _, trivial⟩ ⟨.same _, .same _, .same _, trivial⟩)
              exact ⟨m19, Nat.lt_succ_self m19, t24.2.Next_, t24.2.Begun_, t27.1.Begun, t27.1.Next, t27.1.Rows, t24.2.Rows_, (IntKind.i64.wrap (x7_5 + 1)), rfl, H⟩
        · replace H := ifF H hb37
          refine Ok.le (σ' := ⟨[], []⟩) (.mk trivial trivial) ?_
          refine Ok.exit ?_
          refine Ok.seq ?_
          refine Ok.region (σ' := ⟨[(4, (.v (.bool true)))], []⟩) ?_ ?_
          · refine OpsOk.cons rfl (.v (VOk.asg (d := (.v (.bool true))) rfl rfl) rfl) ?_
            exact .done (.mk ⟨.same _, trivial⟩ trivial)
          refine Ok.le (σ' := ⟨[(4, (.v (.bool true)))], []⟩) (.mk ⟨.same _, trivial⟩ trivial) ?_
          refine Ok.ret ?_
          obtain rfl := Option.some.inj H
          exact ⟨.inl rfl, ⟨_, (.cons (.tmp rfl) .nil), rfl⟩, trivial⟩

/-! watchbill/watchbilllaw27.Few: function 9 -/
def watchbilllaw27_Few.l0 (k : Nat) (a0 : List T_watchbilllaw27_Step) : Nat → Int → Option Bool
  | 0, _ => none
  | m3 + 1, x3_1 => (if (decide (x3_1 < (a0.length : Int))) = true then (if (((decide (x3_1 ≥ 60)) == false) = true → (0 : Int) ≤ x3_1 ∧ x3_1 < (a0.length : Int)) then (((if ((decide (x3_1 ≥ 60)) == false) = true then watchbilllaw27_few k ((rd a0 x3_1).Rows) else some default)).bind fun (t6 : Bool) => (if ((decide (x3_1 ≥ 60)) || (!t6)) = true then some false else watchbilllaw27_Few.l0 k a0 m3 (IntKind.i64.wrap (x3_1 + 1)))) else none) else some true)
def watchbilllaw27_Few (k : Nat) (a0 : List T_watchbilllaw27_Step) : Option Bool := watchbilllaw27_Few.l0 k a0 k 0
theorem watchbilllaw27_Few.ok {k : Nat} {a0 : List T_watchbilllaw27_Step} {r : Bool} (H : watchbilllaw27_Few k a0 = some r) : Vx.Fn Try.prog 9 [(L 2 e_watchbilllaw27_Step a0)] [] (.v (.bool r)) [] := by
  unfold watchbilllaw27_Few at H
  refine Vx.Fn.of_okR Try.func9 rfl (Nat.le_of_ble_eq_true rfl) ?_
  refine Ok.seq ?_
  refine Ok.region (σ' := ⟨[(0, (L 2 e_watchbilllaw27_Step a0))], []⟩) ?_ ?_
  · refine OpsOk.cons rfl (.v (VOk.asg (d := (.v (.bool false))) rfl rfl) rfl) ?_
    exact .done (.mk ⟨.same _, trivial⟩ trivial)
  refine Ok.seq ?_
  refine Ok.seq ?_
  refine Ok.region (σ' := ⟨[(0, (L 2 e_watchbilllaw27_Step a0)), (3, (.v (.int .i64 0)))], []⟩) ?_ ?_
  · refine OpsOk.cons rfl (.v (VOk.asg (d := (.v (.int .i64 0))) rfl rfl) rfl) ?_
    exact .done (.mk ⟨.same _, .same _, trivial⟩ trivial)
  refine Ok.block ?_
  refine Ok.le (σ' := ⟨[(0, (L 2 e_watchbilllaw27_Step a0)), (3, (.v (.int .i64 0)))], []⟩) (.mk ⟨.same _, .same _, trivial⟩ trivial) ?_
  refine Ok.loop (fun m3 σ => ∃ (x3_1 : Int), σ = ⟨[(0, (L 2 e_watchbilllaw27_Step a0)), (3, (.v (.int .i64 x3_1)))], []⟩ ∧ watchbilllaw27_Few.l0 k a0 m3 x3_1 = some r) k ⟨0, rfl, H⟩ ?_
  rintro m3 σ ⟨x3_1, rfl, H⟩
  cases m3 with
  | zero => exact absurd H (by simp [watchbilllaw27_Few.l0])
  | succ m3 =>
    unfold watchbilllaw27_Few.l0 at H
    refine Ok.seq ?_
    refine Ok.seq ?_
    refine Ok.region (σ' := ⟨[(0, (L 2 e_watchbilllaw27_Step a0)), (3, (.v (.int .i64 x3_1))), (7, (.v (.bool (decide (x3_1 < (a0.length : Int))))))], []⟩) ?_ ?_
    · refine OpsOk.cons rfl (.v (VOk.mv (d := (.v (.int .i64 x3_1))) rfl rfl) rfl) ?_
      refine OpsOk.cons rfl (.v (VOk.mv (d := (L 2 e_watchbilllaw27_Step a0)) rfl rfl) rfl) ?_
      refine OpsOk.cons rfl (.v (VOk.lenL (e := e_watchbilllaw27_Step) (xs := a0) rfl Try.underlying23 rfl) rfl) ?_
      refine OpsOk.cons rfl (.v (VOk.arith (op := .lss) (k := .i64) (a := x3_1) (b := (a0.length : Int)) rfl rfl rfl rfl) rfl) ?_
      exact .done (.mk ⟨.same _, .same _, .same _, trivial⟩ trivial)
    refine Ok.test (b := (decide (x3_1 < (a0.length : Int)))) rfl (fun hb10 => ?_) (fun hb10 => ?_)
    · replace H := ifT H hb10
      refine Ok.le (σ' := ⟨[(0, (L 2 e_watchbilllaw27_Step a0)), (3, (.v (.int .i64 x3_1)))], []⟩) (.mk ⟨.same _, .same _, trivial⟩ trivial) ?_
      refine Ok.skip ?_
      refine Ok.seq ?_
      refine Ok.block ?_
      refine Ok.seq ?_
      obtain ⟨c5, H⟩ := assertE H
      obtain ⟨t6, h7, H⟩ := bindE H
      refine Ok.region (σ' := ⟨[(0, (L 2 e_watchbilllaw27_Step a0)), (3, (.v (.int .i64 x3_1))), (20, (.v (.bool ((decide (x3_1 ≥ 60)) || (!t6)))))], []⟩) ?_ ?_
      · refine OpsOk.cons rfl (.v (VOk.mv (d := (.v (.int .i64 x3_1))) rfl rfl) rfl) ?_
        refine OpsOk.cons rfl (.v (VOk.arith (op := .geq) (k := .i64) (a := x3_1) (b := 60) rfl rfl rfl rfl) rfl) ?_
        refine OpsOk.cons rfl (.v (VOk.mv (d := (.v (.bool (decide (x3_1 ≥ 60))))) rfl rfl) rfl) ?_
        refine OpsOk.consI rfl rfl rfl (.one rfl) rfl (fun hw4 => (VOk.g (VOk.mv (d := (L 2 e_watchbilllaw27_Step a0)) rfl rfl))) ?_
        refine OpsOk.consI rfl rfl rfl (.one rfl) rfl (fun hw4 => (VOk.g (VOk.mv (d := (.v (.int .i64 x3_1))) rfl rfl))) ?_
        refine OpsOk.consI rfl rfl rfl (.one rfl) rfl (fun hw4 => (GOk.fr (fr' := [(13, (L 2 e_watchbilllaw27_Step a0)), (14, (.v (.int .i64 x3_1)))]) ⟨DLe.of_eq (cT hw4).symm, DLe.of_eq (cT hw4).symm, trivial⟩ (VOk.g (VOk.indexL (sz := 2) (e := e_watchbilllaw27_Step) (xs := a0) (i := x3_1) rfl Try.underlying23 sz32 rfl rfl (c5 hw4))))) ?_
        refine OpsOk.consI rfl rfl rfl (.one rfl) rfl (fun hw4 => (GOk.fr (fr' := [(15, (.fp (e_watchbilllaw27_Step (rd a0 x3_1)) 0))]) ⟨DLe.of_eq (cT hw4).symm, trivial⟩ (VOk.g (VOk.to (VOk.fieldFp rfl Try.underlying32 rfl sz28 rfl) rfl)))) ?_
        refine OpsOk.consI rfl rfl rfl (.one rfl) rfl (fun hw4 => (GOk.fr (fr' := [(16, (.fp (e_watchbilllaw27_Step (rd a0 x3_1)) 0))]) ⟨DLe.of_eq (cT hw4).symm, trivial⟩ (VOk.g (VOk.loadFp (d := (L 4 e_api_Row ((rd a0 x3_1).Rows))) rfl Try.underlying28 rfl rfl rfl)))) ?_
        refine OpsOk.consI rfl rfl rfl (.one rfl) rfl (fun hw4 => (GOk.fr (fr' := [(17, (L 4 e_api_Row ((rd a0 x3_1).Rows)))]) ⟨DLe.of_eq (cT hw4).symm, trivial⟩ (GOk.call rfl rfl cl16 rfl (watchbilllaw27_few.ok (ifT h7 hw4)) rfl))) ?_
        refine OpsOk.consI rfl rfl rfl (.one rfl) rfl (fun hw4 => (GOk.fr (fr' := [(18, (.v (.bool t6)))]) ⟨DLe.of_eq (cT hw4).symm, trivial⟩ (VOk.g (VOk.not (b := t6) rfl rfl)))) ?_
        refine OpsOk.cons rfl (.v (VOk.to (VOk.pickI (b := (decide (x3_1 ≥ 60))) (p := true) (q := (!t6)) rfl rfl (fun hp8 => rfl) (fun hp8 => (cT (f_beq hp8)))) (pickOr (decide (x3_1 ≥ 60)) (!t6))) rfl) ?_
        exact .done (.mk ⟨.same _, .same _, .same _, trivial⟩ trivial)
      refine Ok.test (b := ((decide (x3_1 ≥ 60)) || (!t6))) rfl (fun hb9 => ?_) (fun hb9 => ?_)
      · replace H := ifT H hb9
        refine Ok.seq ?_
        refine Ok.region (σ' := ⟨[(2, (.v (.bool false)))], []⟩) ?_ ?_
        · refine OpsOk.cons rfl (.v (VOk.asg (d := (.v (.bool false))) rfl rfl) rfl) ?_
          exact .done (.mk ⟨.same _, trivial⟩ trivial)
        refine Ok.le (σ' := ⟨[(2, (.v (.bool false)))], []⟩) (.mk ⟨.same _, trivial⟩ trivial) ?_
        refine Ok.ret ?_
        obtain rfl := Option.some.inj H
        exact ⟨.inl rfl, ⟨_, (.cons (.tmp rfl) .nil), rfl⟩, trivial⟩
      · replace H := ifF H hb9
        refine Ok.le (σ' := ⟨[(0, (L 2 e_watchbilllaw27_Step a0)), (3, (.v (.int .i64 x3_1)))], []⟩) (.mk ⟨.same _, .same _, trivial⟩ trivial) ?_
        refine Ok.skip ?_
        refine Ok.region (σ' := ⟨[(0, (L 2 e_watchbilllaw27_Step a0)), (3, (.v (.int .i64 (IntKind.i64.wrap (x3_1 + 1)))))], []⟩) ?_ ?_
        · refine OpsOk.cons rfl (.v (VOk.mv (d := (.v (.int .i64 x3_1))) rfl rfl) rfl) ?_
          refine OpsOk.cons rfl (.v (VOk.arith (op := .add) (k := .i64) (a := x3_1) (b := 1) rfl rfl rfl rfl) rfl) ?_
          refine OpsOk.cons rfl (.v (VOk.asg (d := (.v (.int .i64 (IntKind.i64.wrap (x3_1 + 1))))) rfl rfl) rfl) ?_
          exact .done (.mk ⟨.same _, .same _, trivial⟩ trivial)
        exact ⟨m3, Nat.lt_succ_self m3, (IntKind.i64.wrap (x3_1 + 1)), rfl, H⟩
    · replace H := ifF H hb10
      refine Ok.le (σ' := ⟨[], []⟩) (.mk trivial trivial) ?_
      refine Ok.exit ?_
      refine Ok.seq ?_
      refine Ok.region (σ' := ⟨[(2, (.v (.bool true)))], []⟩) ?_ ?_
      · refine OpsOk.cons rfl (.v (VOk.asg (d := (.v (.bool true))) rfl rfl) rfl) ?_
        exact .done (.mk ⟨.same _, trivial⟩ trivial)
      refine Ok.le (σ' := ⟨[(2, (.v (.bool true)))], []⟩) (.mk ⟨.same _, trivial⟩ trivial) ?_
      refine Ok.ret ?_
      obtain rfl := Option.some.inj H
      exact ⟨.inl rfl, ⟨_, (.cons (.tmp rfl) .nil), rfl⟩, trivial⟩

/-! watchbill/watchbilllaw27.twice: function 21 -/
def watchbilllaw27_twice.l1 (k : Nat) (c0 : Int → Option Bool) (a0 : List T_api_Row) (x3_1 : Int) : Nat → Int → Option Bool
  | 0, _ => none
  | m6 + 1, x4_4 => (if (decide (x4_4 < x3_1)) = true then (if (0 : Int) ≤ x3_1 ∧ x3_1 < (a0.length : Int) then (if (0 : Int) ≤ x4_4 ∧ x4_4 < (a0.length : Int) then (if (((rd a0 x3_1).URI) == ((rd a0 x4_4).URI)) = true then some true else watchbilllaw27_twice.l1 k c0 a0 x3_1 m6 (IntKind.i64.wrap (x4_4 + 1))) else none) else none) else c0 (IntKind.i64.wrap (x3_1 + 1)))
def watchbilllaw27_twice.l0 (k : Nat) (a0 : List T_api_Row) : Nat → Int → Option Bool
  | 0, _ => none
  | m3 + 1, x3_1 => (if (decide (x3_1 < (a0.length : Int))) = true then watchbilllaw27_twice.l1 k (watchbilllaw27_twice.l0 k a0 m3) a0 x3_1 k 0 else some false)
def watchbilllaw27_twice (k : Nat) (a0 : List T_api_Row) : Option Bool := watchbilllaw27_twice.l0 k a0 k 0
theorem watchbilllaw27_twice.ok {k : Nat} {a0 : List T_api_Row} {r : Bool} (H : watchbilllaw27_twice k a0 = some r) : Vx.Fn Try.prog 21 [(L 4 e_api_Row a0)] [] (.v (.bool r)) [] := by
  unfold watchbilllaw27_twice at H
  refine Vx.Fn.of_okR Try.func21 rfl (Nat.le_of_ble_eq_true rfl) ?_
  refine Ok.seq ?_
  refine Ok.region (σ' := ⟨[(0, (L 4 e_api_Row a0))], []⟩) ?_ ?_
  · refine OpsOk.cons rfl (.v (VOk.asg (d := (.v (.bool false))) rfl rfl) rfl) ?_
    exact .done (.mk ⟨.same _, trivial⟩ trivial)
  refine Ok.seq ?_
  refine Ok.seq ?_
  refine Ok.region (σ' := ⟨[(0, (L 4 e_api_Row a0)), (3, (.v (.int .i64 0)))], []⟩) ?_ ?_
  · refine OpsOk.cons rfl (.v (VOk.asg (d := (.v (.int .i64 0))) rfl rfl) rfl) ?_
    exact .done (.mk ⟨.same _, .same _, trivial⟩ trivial)
  refine Ok.block ?_
  refine Ok.le (σ' := ⟨[(0, (L 4 e_api_Row a0)), (3, (.v (.int .i64 0)))], []⟩) (.mk ⟨.same _, .same _, trivial⟩ trivial) ?_
  refine Ok.loop (fun m3 σ => ∃ (x3_1 : Int), σ = ⟨[(0, (L 4 e_api_Row a0)), (3, (.v (.int .i64 x3_1)))], []⟩ ∧ watchbilllaw27_twice.l0 k a0 m3 x3_1 = some r) k ⟨0, rfl, H⟩ ?_
  rintro m3 σ ⟨x3_1, rfl, H⟩
  cases m3 with
  | zero => exact absurd H (by simp [watchbilllaw27_twice.l0])
  | succ m3 =>
    unfold watchbilllaw27_twice.l0 at H
    refine Ok.seq ?_
    refine Ok.seq ?_
    refine Ok.region (σ' := ⟨[(0, (L 4 e_api_Row a0)), (3, (.v (.int .i64 x3_1))), (8, (.v (.bool (decide (x3_1 < (a0.length : Int))))))], []⟩) ?_ ?_
    · refine OpsOk.cons rfl (.v (VOk.mv (d := (.v (.int .i64 x3_1))) rfl rfl) rfl) ?_
      refine OpsOk.cons rfl (.v (VOk.mv (d := (L 4 e_api_Row a0)) rfl rfl) rfl) ?_
      refine OpsOk.cons rfl (.v (VOk.lenL (e := e_api_Row) (xs := a0) rfl Try.underlying28 rfl) rfl) ?_
      refine OpsOk.cons rfl (.v (VOk.arith (op := .lss) (k := .i64) (a := x3_1) (b := (a0.length : Int)) rfl rfl rfl rfl) rfl) ?_
      exact .done (.mk ⟨.same _, .same _, .same _, trivial⟩ trivial)
    refine Ok.test (b := (decide (x3_1 < (a0.length : Int)))) rfl (fun hb11 => ?_) (fun hb11 => ?_)
    · replace H := ifT H hb11
      refine Ok.le (σ' := ⟨[(0, (L 4 e_api_Row a0)), (3, (.v (.int .i64 x3_1)))], []⟩) (.mk ⟨.same _, .same _, trivial⟩ trivial) ?_
      refine Ok.skip ?_
      refine Ok.seq ?_
      refine Ok.block ?_
      refine Ok.seq ?_
      refine Ok.region (σ' := ⟨[(0, (L 4 e_api_Row a0)), (3, (.v (.int .i64 x3_1))), (4, (.v (.int .i64 0)))], []⟩) ?_ ?_
      · refine OpsOk.cons rfl (.v (VOk.asg (d := (.v (.int .i64 0))) rfl rfl) rfl) ?_
        exact .done (.mk ⟨.same _, .same _, .same _, trivial⟩ trivial)
      refine Ok.block ?_
      refine Ok.le (σ' := ⟨[(0, (L 4 e_api_Row a0)), (3, (.v (.int .i64 x3_1))), (4, (.v (.int .i64 0)))], []⟩) (.mk ⟨.same _, .same _, .same _, trivial⟩ trivial) ?_
      refine Ok.loop (fun m6 σ => ∃ (x4_4 : Int), σ = ⟨[(0, (L 4 e_api_Row a0)), (3, (.v (.int .i64 x3_1))), (4, (.v (.int .i64 x4_4)))], []⟩ ∧ watchbilllaw27_twice.l1 k (watchbilllaw27_twice.l0 k a0 m3) a0 x3_1 m6 x4_4 = some r) k ⟨0, rfl, H⟩ ?_
      rintro m6 σ ⟨x4_4, rfl, H⟩
      cases m6 with
      | zero => exact absurd H (by simp [watchbilllaw27_twice.l1])
      | succ m6 =>
        unfold watchbilllaw27_twice.l1 at H
        refine Ok.seq ?_
        refine Ok.seq ?_
        refine Ok.region (σ' := ⟨[(0, (L 4 e_api_Row a0)), (3, (.v (.int .i64 x3_1))), (4, (.v (.int .i64 x4_4))), (13, (.v (.bool (decide (x4_4 < x3_1)))))], []⟩) ?_ ?_
        · refine OpsOk.cons rfl (.v (VOk.mv (d := (.v (.int .i64 x4_4))) rfl rfl) rfl) ?_
          refine OpsOk.cons rfl (.v (VOk.mv (d := (.v (.int .i64 x3_1))) rfl rfl) rfl) ?_
          refine OpsOk.cons rfl (.v (VOk.arith (op := .lss) (k := .i64) (a := x4_4) (b := x3_1) rfl rfl rfl rfl) rfl) ?_
          exact .done (.mk ⟨.same _, .same _, .same _, .same _, trivial⟩ trivial)
        refine Ok.test (b := (decide (x4_4 < x3_1))) rfl (fun hb10 => ?_) (fun hb10 => ?_)
        · replace H := ifT H hb10
          refine Ok.le (σ' := ⟨[(0, (L 4 e_api_Row a0)), (3, (.v (.int .i64 x3_1))), (4, (.v (.int .i64 x4_4)))], []⟩) (.mk ⟨.same _, .same _, .same _, trivial⟩ trivial) ?_
          refine Ok.skip ?_
          refine Ok.seq ?_
          refine Ok.block ?_
          refine Ok.seq ?_
          obtain ⟨c7, H⟩ := assertE H
          obtain ⟨c8, H⟩ := assertE H
          refine Ok.drawE (σ' := ⟨[(0, (L 4 e_api_Row a0)), (3, (.v (.int .i64 x3_1))), (4, (.v (.int .i64 x4_4))), (26, (.v (.bool (((rd a0 x3_1).URI) == ((rd a0 x4_4).URI)))))], []⟩) [⟨true, [(0, (L 4 e_api_Row a0))], (L 4 e_api_Row a0)⟩, ⟨true, [(3, (.v (.int .i64 x3_1)))], (.v (.int .i64 x3_1))⟩, ⟨true, [(16, (L 4 e_api_Row a0)), (17, (.v (.int .i64 x3_1)))], (.fp (e_api_Row (rd a0 x3_1)) 0)⟩, ⟨true, [(18, (.fp (e_api_Row (rd a0 x3_1)) 0))], (.fp (e_api_Row (rd a0 x3_1)) 0)⟩, ⟨true, [(19, (.fp (e_api_Row (rd a0 x3_1)) 0))], (S ((rd a0 x3_1).URI))⟩, ⟨true, [(0, (L 4 e_api_Row a0))], (L 4 e_api_Row a0)⟩, ⟨true, [(4, (.v (.int .i64 x4_4)))], (.v (.int .i64 x4_4))⟩, ⟨true, [(21, (L 4 e_api_Row a0)), (22, (.v (.int .i64 x4_4)))], (.fp (e_api_Row (rd a0 x4_4)) 0)⟩, ⟨true, [(23, (.fp (e_api_Row (rd a0 x4_4)) 0))], (.fp (e_api_Row (rd a0 x4_4)) 0)⟩, ⟨true, [(24, (.fp (e_api_Row (rd a0 x4_4)) 0))], (S ((rd a0 x4_4).URI))⟩, ⟨true, [(20, (S ((rd a0 x3_1).URI))), (25, (S ((rd a0 x4_4).URI)))], (.v (.bool (((rd a0 x3_1).URI) == ((rd a0 x4_4).URI))))⟩] [[], [], [0, 1], [2], [3], [], [], [5, 6], [7], [8], [4, 9]] mixed (by kernel_rfl) ?_ ?_
          · refine TxtE.cons rfl ⟨.same _, trivial⟩ rfl (VOk.g (VOk.mv (d := (L 4 e_api_Row a0)) rfl rfl)) ?_
            refine TxtE.cons rfl ⟨.same _, trivial⟩ rfl (VOk.g (VOk.mv (d := (.v (.int .i64 x3_1))) rfl rfl)) ?_
            refine TxtE.cons rfl ⟨.same _, .same _, trivial⟩ rfl (VOk.g (VOk.indexL (sz := 4) (e := e_api_Row) (xs := a0) (i := x3_1) rfl Try.underlying28 sz43 rfl rfl c7)) ?_
            refine TxtE.cons rfl ⟨.same _, trivial⟩ rfl (VOk.g (VOk.to (VOk.fieldFp rfl Try.underlying43 rfl sz9 rfl) rfl)) ?_
            refine TxtE.cons rfl ⟨.same _, trivial⟩ rfl (VOk.g (VOk.loadFp (d := (S ((rd a0 x3_1).URI))) rfl Try.underlying9 rfl rfl rfl)) ?_
            refine TxtE.cons rfl ⟨.same _, trivial⟩ rfl (VOk.g (VOk.mv (d := (L 4 e_api_Row a0)) rfl rfl)) ?_
            refine TxtE.cons rfl ⟨.same _, trivial⟩ rfl (VOk.g (VOk.mv (d := (.v (.int .i64 x4_4))) rfl rfl)) ?_
            refine TxtE.cons rfl ⟨.same _, .same _, trivial⟩ rfl (VOk.g (VOk.indexL (sz := 4) (e := e_api_Row) (xs := a0) (i := x4_4) rfl Try.underlying28 sz43 rfl rfl c8)) ?_
            refine TxtE.cons rfl ⟨.same _, trivial⟩ rfl (VOk.g (VOk.to (VOk.fieldFp rfl Try.underlying43 rfl sz9 rfl) rfl)) ?_
            refine TxtE.cons rfl ⟨.same _, trivial⟩ rfl (VOk.g (VOk.loadFp (d := (S ((rd a0 x4_4).URI))) rfl Try.underlying9 rfl rfl rfl)) ?_
            refine TxtE.cons rfl ⟨.same _, .same _, trivial⟩ rfl (VOk.g (VOk.strOp (op := .eql) (a := (rd a0 x3_1).URI) (b := (rd a0 x4_4).URI) rfl rfl rfl rfl)) ?_
            exact .done (.mk ⟨.same _, .same _, .same _, .same _, trivial⟩ trivial)
          refine Ok.test (b := (((rd a0 x3_1).URI) == ((rd a0 x4_4).URI))) rfl (fun hb9 => ?_) (fun hb9 => ?_)
          · replace H := ifT H hb9
            refine Ok.seq ?_
            refine Ok.region (σ' := ⟨[(2, (.v (.bool true)))], []⟩) ?_ ?_
            · refine OpsOk.cons rfl (.v (VOk.asg (d := (.v (.bool true))) rfl rfl) rfl) ?_
              exact .done (.mk ⟨.same _, trivial⟩ trivial)
            refine Ok.le (σ' := ⟨[(2, (.v (.bool true)))], []⟩) (.mk ⟨.same _, trivial⟩ trivial) ?_
            refine Ok.ret ?_
            obtain rfl := Option.some.inj H
            exact ⟨.inl rfl, ⟨_, (.cons (.tmp rfl) .nil), rfl⟩, trivial⟩
          · replace H := ifF H hb9
            refine Ok.le (σ' := ⟨[(0, (L 4 e_api_Row a0)), (3, (.v (.int .i64 x3_1))), (4, (.v (.int .i64 x4_4)))], []⟩) (.mk ⟨.same _, .same _, .same _, trivial⟩ trivial) ?_
            refine Ok.skip ?_
            refine Ok.region (σ' := ⟨[(0, (L 4 e_api_Row a0)), (3, (.v (.int .i64 x3_1))), (4, (.v (.int .i64 (IntKind.i64.wrap (x4_4 + 1)))))], []⟩) ?_ ?_
            · refine OpsOk.cons rfl (.v (VOk.mv (d := (.v (.int .i64 x4_4))) rfl rfl) rfl) ?_
              refine OpsOk.cons rfl (.v (VOk.arith (op := .add) (k := .i64) (a := x4_4) (b := 1) rfl rfl rfl rfl) rfl) ?_
              refine OpsOk.cons rfl (.v (VOk.asg (d := (.v (.int .i64 (IntKind.i64.wrap (x4_4 + 1))))) rfl rfl) rfl) ?_
              exact .done (.mk ⟨.same _, .same _, .same _, trivial⟩ trivial)
            exact ⟨m6, Nat.lt_succ_self m6, (IntKind.i64.wrap (x4_4 + 1)), rfl, H⟩
        · replace H := ifF H hb10
          refine Ok.le (σ' := ⟨[(0, (L 4 e_api_Row a0)), (3, (.v (.int .i64 x3_1)))], []⟩) (.mk ⟨.same _, .same _, trivial⟩ trivial) ?_
          refine Ok.exit ?_
          refine Ok.region (σ' := ⟨[(0, (L 4 e_api_Row a0)), (3, (.v (.int .i64 (IntKind.i64.wrap (x3_1 + 1)))))], []⟩) ?_ ?_
          · refine OpsOk.cons rfl (.v (VOk.mv (d := (.v (.int .i64 x3_1))) rfl rfl) rfl) ?_
            refine OpsOk.cons rfl (.v (VOk.arith (op := .add) (k := .i64) (a := x3_1) (b := 1) rfl rfl rfl rfl) rfl) ?_
            refine OpsOk.cons rfl (.v (VOk.asg (d := (.v (.int .i64 (IntKind.i64.wrap (x3_1 + 1))))) rfl rfl) rfl) ?_
            exact .done (.mk ⟨.same _, .same _, trivial⟩ trivial)
          exact ⟨m3, Nat.lt_succ_self m3, (IntKind.i64.wrap (x3_1 + 1)), rfl, H⟩
    · replace H := ifF H hb11
      refine Ok.le (σ' := ⟨[], []⟩) (.mk trivial trivial) ?_
      refine Ok.exit ?_
      refine Ok.seq ?_
      refine Ok.region (σ' := ⟨[(2, (.v (.bool false)))], []⟩) ?_ ?_
      · refine OpsOk.cons rfl (.v (VOk.asg (d := (.v (.bool false))) rfl rfl) rfl) ?_
        exact .done (.mk ⟨.same _, trivial⟩ trivial)
      refine Ok.le (σ' := ⟨[(2, (.v (.bool false)))], []⟩) (.mk ⟨.same _, trivial⟩ trivial) ?_
      refine Ok.ret ?_
      obtain rfl := Option.some.inj H
      exact ⟨.inl rfl, ⟨_, (.cons (.tmp rfl) .nil), rfl⟩, trivial⟩

/-! watchbill/watchbilllaw27.SubsFold: function 5 -/
def watchbilllaw27_SubsFold.j1 (k : Nat) (c0 : Str → Int → Bool → List T_api_Row → Int → Bool → List T_api_Row → Int → Int → Option Bool) (a0 : Str) (a2 : List T_watchbilllaw27_Step) (x10_10 : Int) (t33 : T_api_Body × Bool × Int × T_subs_Sub) (x9_39 : Int) (y23_0_40 : Int) (y23_1_41 : Bool) (y1462_42 : List T_api_Row) : Option Bool := ((subs_Client_Rows_o (T_subs_Client.mk y23_0_40 y23_1_41 y1462_42)).bind fun (t43 : (List T_api_Row)) => (if (0 : Int) ≤ x10_10 ∧ x10_10 < (a2.length : Int) then ((watchbillref24_Rows k t43 ((rd a2 x10_10).Rows)).bind fun (t46 : Bool) => (if (!t46) = true then some false else c0 t33.2.2.2.List_ t33.2.2.2.Next_ t33.2.2.2.Begun_ t33.2.2.2.Rows_ y23_0_40 y23_1_41 y1462_42 (IntKind.i64.wrap (x10_10 + 1)) x9_39)) else none))
def watchbilllaw27_SubsFold.l0 (k : Nat) (a0 : Str) (a2 : List T_watchbilllaw27_Step) : Nat → Str → Int → Bool → List T_api_Row → Int → Bool → List T_api_Row → Int → Int → Option Bool
  | 0, _, _, _, _, _, _, _, _, _ => none
  | m27 + 1, y21_0_11, y21_1_12, y21_2_13, y21_3_14, y23_0_15, y23_1_16, y1462_17, x10_10, x9_9 => (if (decide (x10_10 < (a2.length : Int))) = true then (if (0 : Int) ≤ x10_10 ∧ x10_10 < (a2.length : Int) then ((watchbilllaw27_twice k ((rd a2 x10_10).Rows)).bind fun (t29 : Bool) => (if t29 = true then some true else (if (0 : Int) ≤ x10_10 ∧ x10_10 < (a2.length : Int) then (if (0 : Int) ≤ x10_10 ∧ x10_10 < (a2.length : Int) then ((subs_Sub_Next k (T_subs_Sub.mk y21_0_11 y21_1_12 y21_2_13 y21_3_14) ((rd a2 x10_10).Rows) ((rd a2 x10_10).Full)).bind fun (t33 : T_api_Body × Bool × Int × T_subs_Sub) => (if (t33.2.2.1 != 0) = true then some (((t33.2.2.1 == 49) && (x9_9 == 4294967295)) && (!t33.2.1)) else (if t33.2.1 = true then (if (((IntKind.u64.wrap t33.1.Version) != x9_9) || (!(t33.1.List_ == a0))) = true then some false else ((subs_Client_Take k (T_subs_Client.mk y23_0_15 y23_1_16 y1462_17) t33.1).bind fun (t54 : Int × T_subs_Client) => (if (t54.1 != 0) = true then some false else watchbilllaw27_SubsFold.j1 k (watchbilllaw27_SubsFold.l0 k a0 a2 m27) a0 a2 x10_10 t33 (IntKind.u64.wrap (x9_9 + 1)) t54.2.Next_ t54.2.Begun_ t54.2.Rows_))) else watchbilllaw27_SubsFold.j1 k (watchbilllaw27_SubsFold.l0 k a0 a2 m27) a0 a2 x10_10 t33 x9_9 y23_0_15 y23_1_16 y1462_17))) else none) else none))) else none) else some true)
def watchbilllaw27_SubsFold (k : Nat) (a0 : Str) (a1 : Int) (a2 : List T_watchbilllaw27_Step) : Option Bool := ((watchbilllaw27_awake k).bind fun (t1 : Bool) => (if (!t1) = true then some false else ((watchbilllaw27_Few k a2).bind fun (t3 : Bool) => (if (!t3) = true then some true else ((subs_New a0 a1).bind fun (t5 : T_subs_Sub) => ((subs_NewClient a1).bind fun (t7 : T_subs_Client) => watchbilllaw27_SubsFold.l0 k a0 a2 k t5.List_ t5.Next_ t5.Begun_ t5.Rows_ t7.Next_ t7.Begun_ t7.Rows_ 0 (IntKind.u64.wrap a1)))))))
theorem watchbilllaw27_SubsFold.ok {k : Nat} {a0 : Str} {a1 : Int} {a2 : List T_watchbilllaw27_Step} {r : Bool} (H : watchbilllaw27_SubsFold k a0 a1 a2 = some r) : Vx.Fn Try.prog 5 [(S a0), (.v (.int .u32 a1)), (L 2 e_watchbilllaw27_Step a2)] [] (.v (.bool r)) [] := by
  unfold watchbilllaw27_SubsFold at H
  refine Vx.Fn.of_okR Try.func5 rfl (Nat.le_of_ble_eq_true rfl) ?_
  refine Ok.seq ?_
  refine Ok.region (σ' := ⟨[(0, (S a0)), (1, (.v (.int .u32 a1))), (2, (L 2 e_watchbilllaw27_Step a2))], []⟩) ?_ ?_
  · refine OpsOk.cons rfl (.v (VOk.asg (d := (.v (.bool false))) rfl rfl) rfl) ?_
    exact .done (.mk ⟨.same _, .same _, .same _, trivial⟩ trivial)
  refine Ok.seq ?_
  refine Ok.seq ?_
  obtain ⟨t1, h2, H⟩ := bindE H
  refine Ok.region (σ' := ⟨[(0, (S a0)), (1, (.v (.int .u32 a1))), (2, (L 2 e_watchbilllaw27_Step a2)), (15, (.v (.bool (!t1))))], []⟩) ?_ ?_
  · refine OpsOk.cons rfl (.g (GOk.call rfl rfl cl8 rfl (watchbilllaw27_awake.ok h2) rfl) rfl) ?_
    refine OpsOk.cons rfl (.v (VOk.not (b := t1) rfl rfl) rfl) ?_
    exact .done (.mk ⟨.same _, .same _, .same _, .same _, trivial⟩ trivial)
  refine Ok.test (b := (!t1)) rfl (fun hb62 => ?_) (fun hb62 => ?_)
  · replace H := ifT H hb62
    refine Ok.seq ?_
    refine Ok.region (σ' := ⟨[(6, (.v (.bool false)))], []⟩) ?_ ?_
    · refine OpsOk.cons rfl (.v (VOk.asg (d := (.v (.bool false))) rfl rfl) rfl) ?_
      exact .done (.mk ⟨.same _, trivial⟩ trivial)
    refine Ok.le (σ' := ⟨[(6, (.v (.bool false)))], []⟩) (.mk ⟨.same _, trivial⟩ trivial) ?_
    refine Ok.ret ?_
    obtain rfl := Option.some.inj H
    exact ⟨.inl rfl, ⟨_, (.cons (.tmp rfl) .nil), rfl⟩, trivial⟩
  · replace H := ifF H hb62
    refine Ok.le (σ' := ⟨[(0, (S a0)), (1, (.v (.int .u32 a1))), (2, (L 2 e_watchbilllaw27_Step a2))], []⟩) (.mk ⟨.same _, .same _, .same _, trivial⟩ trivial) ?_
    refine Ok.skip ?_
    refine Ok.seq ?_
    refine Ok.seq ?_
    obtain ⟨t3, h4, H⟩ := bindE H
    refine Ok.region (σ' := ⟨[(0, (S a0)), (1, (.v (.int .u32 a1))), (2, (L 2 e_watchbilllaw27_Step a2)), (18, (.v (.bool (!t3))))], []⟩) ?_ ?_
    · refine OpsOk.cons rfl (.v (VOk.mv (d := (L 2 e_watchbilllaw27_Step a2)) rfl rfl) rfl) ?_
      refine OpsOk.cons rfl (.g (GOk.call rfl rfl cl9 rfl (watchbilllaw27_Few.ok h4) rfl) rfl) ?_
      refine OpsOk.cons rfl (.v (VOk.not (b := t3) rfl rfl) rfl) ?_
      exact .done (.mk ⟨.same _, .same _, .same _, .same _, trivial⟩ trivial)
    refine Ok.test (b := (!t3)) rfl (fun hb61 => ?_) (fun hb61 => ?_)
    · replace H := ifT H hb61
      refine Ok.seq ?_
      refine Ok.region (σ' := ⟨[(6, (.v (.bool true)))], []⟩) ?_ ?_
      · refine OpsOk.cons rfl (.v (VOk.asg (d := (.v (.bool true))) rfl rfl) rfl) ?_
        exact .done (.mk ⟨.same _, trivial⟩ trivial)
      refine Ok.le (σ' := ⟨[(6, (.v (.bool true)))], []⟩) (.mk ⟨.same _, trivial⟩ trivial) ?_
      refine Ok.ret ?_
      obtain rfl := Option.some.inj H
      exact ⟨.inl rfl, ⟨_, (.cons (.tmp rfl) .nil), rfl⟩, trivial⟩
    · replace H := ifF H hb61
      refine Ok.le (σ' := ⟨[(0, (S a0)), (1, (.v (.int .u32 a1))), (2, (L 2 e_watchbilllaw27_Step a2))], []⟩) (.mk ⟨.same _, .same _, .same _, trivial⟩ trivial) ?_
      refine Ok.skip ?_
      refine Ok.seq ?_
      obtain ⟨t5, h6, H⟩ := bindE H
      obtain ⟨t7, h8, H⟩ := bindE H
      refine Ok.region (σ' := ⟨[(0, (S a0)), (1, (.v (.int .u32 a1))), (2, (L 2 e_watchbilllaw27_Step a2)), (7, (.bref 21 0)), (8, (.bref 23 0))], [(21, (.box .ex [(S t5.List_), (.v (.int .u32 t5.Next_)), (.v (.bool t5.Begun_)), (L 4 e_api_Row t5.Rows_)])), (23, (.box .ex [(.v (.int .u64 t7.Next_)), (.v (.bool t7.Begun_)), (.sref 1462)])), (1462, (.rows true 43 4 (t7.Rows_.map e_api_Row)))]⟩) ?_ ?_
      · refine OpsOk.cons rfl (.v (VOk.mv (d := (S a0)) rfl rfl) rfl) ?_
        refine OpsOk.cons rfl (.v (VOk.mv (d := (.v (.int .u32 a1))) rfl rfl) rfl) ?_
        refine OpsOk.cons rfl (OpOk.callP 21 1420 rfl rfl cl10 (subs_New.ok h6) rfl rfl rfl rfl) ?_
        refine OpsOk.cons rfl (.v (VOk.mv (d := (.v (.int .u32 a1))) rfl rfl) rfl) ?_
        refine OpsOk.cons rfl (OpOk.callP 23 1462 rfl rfl cl15 (subs_NewClient.ok h8) rfl rfl rfl rfl) ?_
        refine OpsOk.cons rfl (.v (VOk.asg (d := (.bref 21 0)) rfl rfl) rfl) ?_
        refine OpsOk.cons rfl (.v (VOk.asg (d := (.bref 23 0)) rfl rfl) rfl) ?_
        exact .done (.mk ⟨.same _, .same _, .same _, .same _, .same _, trivial⟩ ⟨.same _, .same _, .same _, trivial⟩)
      refine Ok.seq ?_
      refine Ok.region (σ' := ⟨[(0, (S a0)), (2, (L 2 e_watchbilllaw27_Step a2)), (7, (.bref 21 0)), (8, (.bref 23 0)), (9, (.v (.int .u64 (IntKind.u64.wrap a1))))], [(21, (.box .ex [(S t5.List_), (.v (.int .u32 t5.Next_)), (.v (.bool t5.Begun_)), (L 4 e_api_Row t5.Rows_)])), (23, (.box .ex [(.v (.int .u64 t7.Next_)), (.v (.bool t7.Begun_)), (.sref 1462)])), (1462, (.rows true 43 4 (t7.Rows_.map e_api_Row)))]⟩) ?_ ?_
      · refine OpsOk.cons rfl (.v (VOk.mv (d := (.v (.int .u32 a1))) rfl rfl) rfl) ?_
        refine OpsOk.cons rfl (.v (VOk.convInt (a := a1) rfl (by rw [Try.underlying22]; rfl) Try.underlying48 rfl) rfl) ?_
        refine OpsOk.cons rfl (.v (VOk.asg (d := (.v (.int .u64 (IntKind.u64.wrap a1)))) rfl rfl) rfl) ?_
        exact .done (.mk ⟨.same _, .same _, .same _, .same _, .same _, trivial⟩ ⟨.same _, .same _, .same _, trivial⟩)
      refine Ok.seq ?_
      refine Ok.seq ?_
      refine Ok.region (σ' := ⟨[(0, (S a0)), (2, (L 2 e_watchbilllaw27_Step a2)), (7, (.bref 21 0)), (8, (.bref 23 0)), (9, (.v (.int .u64 (IntKind.u64.wrap a1)))), (10, (.v (.int .i64 0)))], [(21, (.box .ex [(S t5.List_), (.v (.int .u32 t5.Next_)), (.v (.bool t5.Begun_)), (L 4 e_api_Row t5.Rows_)])), (23, (.box .ex [(.v (.int .u64 t7.Next_)), (.v (.bool t7.Begun_)), (.sref 1462)])), (1462, (.rows true 43 4 (t7.Rows_.map e_api_Row)))]⟩) ?_ ?_
      · refine OpsOk.cons rfl (.v (VOk.asg (d := (.v (.int .i64 0))) rfl rfl) rfl) ?_
        exact .done (.mk ⟨.same _, .same _, .same _, .same _, .same _, .same _, trivial⟩ ⟨.same _, .same _, .same _, trivial⟩)
      refine Ok.block ?_
      refine Ok.le (σ' := ⟨[(0, (S a0)), (2, (L 2 e_watchbilllaw27_Step a2)), (7, (.bref 21 0)), (8, (.bref 23 0)), (9, (.v (.int .u64 (IntKind.u64.wrap a1)))), (10, (.v (.int .i64 0)))], [(21, (.box .ex [(S t5.List_), (.v (.int .u32 t5.Next_)), (.v (.bool t5.Begun_)), (L 4 e_api_Row t5.Rows_)])), (23, (.box .ex [(.v (.int .u64 t7.Next_)), (.v (.bool t7.Begun_)), (.sref 1462)])), (1462, (.rows true 43 4 (t7.Rows_.map e_api_Row)))]⟩) (.mk ⟨.same _, .same _, .same _, .same _, .same _, .same _, trivial⟩ ⟨.same _, .same _, .same _, trivial⟩) ?_
      refine Ok.loop (fun m27 σ => ∃ (y21_0_11 : Str) (y21_1_12 : Int) (y21_2_13 : Bool) (y21_3_14 : List T_api_Row) (y23_0_15 : Int) (y23_1_16 : Bool) (y1462_17 : List T_api_Row) (x10_10 : Int) (x9_9 : Int), σ = ⟨[(0, (S a0)), (2, (L 2 e_watchbilllaw27_Step a2)), (7, (.bref 21 0)), (8, (.bref 23 0)), (9, (.v (.int .u64 x9_9))), (10, (.v (.int .i64 x10_10)))], [(21, (.box .ex [(S y21_0_11), (.v (.int .u32 y21_1_12)), (.v (.bool y21_2_13)), (L 4 e_api_Row y21_3_14)])), (23, (.box .ex [(.v (.int .u64 y23_0_15)), (.v (.bool y23_1_16)), (.sref 1462)])), (1462, (.rows true 43 4 (y1462_17.map e_api_Row)))]⟩ ∧ watchbilllaw27_SubsFold.l0 k a0 a2 m27 y21_0_11 y21_1_12 y21_2_13 y21_3_14 y23_0_15 y23_1_16 y1462_17 x10_10 x9_9 = some r) k ⟨t5.List_, t5.Next_, t5.Begun_, t5.Rows_, t7.Next_, t7.Begun_, t7.Rows_, 0, (IntKind.u64.wrap a1), rfl, H⟩ ?_
      rintro m27 σ ⟨y21_0_11, y21_1_12, y21_2_13, y21_3_14, y23_0_15, y23_1_16, y1462_17, x10_10, x9_9, rfl, H⟩
      cases m27 with
      | zero => exact absurd H (by simp [watchbilllaw27_SubsFold.l0])
      | succ m27 =>
        unfold watchbilllaw27_SubsFold.l0 at H
        refine Ok.seq ?_
        refine Ok.seq ?_
        refine Ok.region (σ' := ⟨[(0, (S a0)), (2, (L 2 e_watchbilllaw27_Step a2)), (7, (.bref 21 0)), (8, (.bref 23 0)), (9, (.v (.int .u64 x9_9))), (10, (.v (.int .i64 x10_10))), (29, (.v (.bool (decide (x10_10 < (a2.length : Int))))))], [(21, (.box .ex [(S y21_0_11), (.v (.int .u32 y21_1_12)), (.v (.bool y21_2_13)), (L 4 e_api_Row y21_3_14)])), (23, (.box .ex [(.v (.int .u64 y23_0_15)), (.v (.bool y23_1_16)), (.sref 1462)])), (1462, (.rows true 43 4 (y1462_17.map e_api_Row)))]⟩) ?_ ?_
        · refine OpsOk.cons rfl (.v (VOk.mv (d := (.v (.int .i64 x10_10))) rfl rfl) rfl) ?_
          refine OpsOk.cons rfl (.v (VOk.mv (d := (L 2 e_watchbilllaw27_Step a2)) rfl rfl) rfl) ?_
          refine OpsOk.cons rfl (.v (VOk.lenL (e := e_watchbilllaw27_Step) (xs := a2) rfl Try.underlying23 rfl) rfl) ?_
          refine OpsOk.cons rfl (.v (VOk.arith (op := .lss) (k := .i64) (a := x10_10) (b := (a2.length : Int)) rfl rfl rfl rfl) rfl) ?_
          exact .done (.mk ⟨.same _, .same _, .same _, .same _, .same _, .same _, .same _, trivial⟩ ⟨.same _, .same _, .same _, trivial⟩)
        refine Ok.test (b := (decide (x10_10 < (a2.length : Int)))) rfl (fun hb60 => ?_) (fun hb60 => ?_)
        · replace H := ifT H hb60
          refine Ok.le (σ' := ⟨[(0, (S a0)), (2, (L 2 e_watchbilllaw27_Step a2)), (7, (.bref 21 0)), (8, (.bref 23 0)), (9, (.v (.int .u64 x9_9))), (10, (.v (.int .i64 x10_10)))], [(21, (.box .ex [(S y21_0_11), (.v (.int .u32 y21_1_12)), (.v (.bool y21_2_13)), (L 4 e_api_Row y21_3_14)])), (23, (.box .ex [(.v (.int .u64 y23_0_15)), (.v (.bool y23_1_16)), (.sref 1462)])), (1462, (.rows true 43 4 (y1462_17.map e_api_Row)))]⟩) (.mk ⟨.same _, .same _, .same _, .same _, .same _, .same _, trivial⟩ ⟨.same _, .same _, .same _, trivial⟩) ?_
          refine Ok.skip ?_
          refine Ok.seq ?_
          refine Ok.block ?_
          refine Ok.seq ?_
          refine Ok.seq ?_
          obtain ⟨c28, H⟩ := assertE H
          obtain ⟨t29, h30, H⟩ := bindE H
          refine Ok.region (σ' := ⟨[(0, (S a0)), (2, (L 2 e_watchbilllaw27_Step a2)), (7, (.bref 21 0)), (8, (.bref 23 0)), (9, (.v (.int .u64 x9_9))), (10, (.v (.int .i64 x10_10))), (37, (.v (.bool t29)))], [(21, (.box .ex [(S y21_0_11), (.v (.int .u32 y21_1_12)), (.v (.bool y21_2_13)), (L 4 e_api_Row y21_3_14)])), (23, (.box .ex [(.v (.int .u64 y23_0_15)), (.v (.bool y23_1_16)), (.sref 1462)])), (1462, (.rows true 43 4 (y1462_17.map e_api_Row)))]⟩) ?_ ?_
          · refine OpsOk.cons rfl (.v (VOk.mv (d := (L 2 e_watchbilllaw27_Step a2)) rfl rfl) rfl) ?_
            refine OpsOk.cons rfl (.v (VOk.mv (d := (.v (.int .i64 x10_10))) rfl rfl) rfl) ?_
            refine OpsOk.cons rfl (.v (VOk.indexL (sz := 2) (e := e_watchbilllaw27_Step) (xs := a2) (i := x10_10) rfl Try.underlying23 sz32 rfl rfl c28) rfl) ?_
            refine OpsOk.cons rfl (.v (VOk.to (VOk.fieldFp rfl Try.underlying32 rfl sz28 rfl) rfl) rfl) ?_
            refine OpsOk.cons rfl (.v (VOk.loadFp (d := (L 4 e_api_Row ((rd a2 x10_10).Rows))) rfl Try.underlying28 rfl rfl rfl) rfl) ?_
            refine OpsOk.cons rfl (.g (GOk.call rfl rfl cl21 rfl (watchbilllaw27_twice.ok h30) rfl) rfl) ?_
            exact .done (.mk ⟨.same _, .same _, .same _, .same _, .same _, .same _, .same _, trivial⟩ ⟨.same _, .same _, .same _, trivial⟩)
          refine Ok.test (b := t29) rfl (fun hb59 => ?_) (fun hb59 => ?_)
          · replace H := ifT H hb59
            refine Ok.seq ?_
            refine Ok.region (σ' := ⟨[(6, (.v (.bool true)))], []⟩) ?_ ?_
            · refine OpsOk.cons rfl (.v (VOk.asg (d := (.v (.bool true))) rfl rfl) rfl) ?_
              exact .done (.mk ⟨.same _, trivial⟩ trivial)
            refine Ok.le (σ' := ⟨[(6, (.v (.bool true)))], []⟩) (.mk ⟨.same _, trivial⟩ trivial) ?_
            refine Ok.ret ?_
            obtain rfl := Option.some.inj H
            exact ⟨.inl rfl, ⟨_, (.cons (.tmp rfl) .nil), rfl⟩, trivial⟩
          · replace H := ifF H hb59
            refine Ok.le (σ' := ⟨[(0, (S a0)), (2, (L 2 e_watchbilllaw27_Step a2)), (7, (.bref 21 0)), (8, (.bref 23 0)), (9, (.v (.int .u64 x9_9))), (10, (.v (.int .i64 x10_10)))], [(21, (.box .ex [(S y21_0_11), (.v (.int .u32 y21_1_12)), (.v (.bool y21_2_13)), (L 4 e_api_Row y21_3_14)])), (23, (.box .ex [(.v (.int .u64 y23_0_15)), (.v (.bool y23_1_16)), (.sref 1462)])), (1462, (.rows true 43 4 (y1462_17.map e_api_Row)))]⟩) (.mk ⟨.same _, .same _, .same _, .same _, .same _, .same _, trivial⟩ ⟨.same _, .same _, .same _, trivial⟩) ?_
            refine Ok.skip ?_
            refine Ok.seq ?_
            obtain ⟨c31, H⟩ := assertE H
            obtain ⟨c32, H⟩ := assertE H
            obtain ⟨t33, h34, H⟩ := bindE H
            refine Ok.le (σ' := ⟨[(0, (S a0)), (2, (L 2 e_watchbilllaw27_Step a2)), (7, (.bref 21 0)), (8, (.bref 23 0)), (9, (.v (.int .u64 x9_9))), (10, (.v (.int .i64 x10_10)))], [(21, (.box .ex [(S y21_0_11), (.v (.int .u32 y21_1_12)), (.v (.bool y21_2_13)), (L 4 e_api_Row y21_3_14)])), (23, (.box .ex [(.v (.int .u64 y23_0_15)), (.v (.bool y23_1_16)), (.sref 1462)])), (1462, (.rows true 43 4 (y1462_17.map e_api_Row)))]⟩) (.mk ⟨.same _, .same _, .same _, .same _, .same _, .same _, trivial⟩ ⟨.same _, .same _, .same _, trivial⟩) ?_
            refine Ok.drawE2 (σ' := ⟨[(0, (S a0)), (2, (L 2 e_watchbilllaw27_Step a2)), (7, (.bref 21 0)), (8, (.bref 23 0)), (9, (.v (.int .u64 x9_9))), (10, (.v (.int .i64 x10_10))), (11, (.bref 11 0)), (12, (.v (.bool t33.2.1))), (13, (.v (.int .i64 t33.2.2.1)))], [(11, (.box .ex [(S t33.1.List_), (.v (.int .u32 t33.1.Version)), (.v (.bool t33.1.Full)), (L 4 e_api_Row t33.1.Rows)])), (21, (.box .ex [(S t33.2.2.2.List_), (.v (.int .u32 t33.2.2.2.Next_)), (.v (.bool t33.2.2.2.Begun_)), (L 4 e_api_Row t33.2.2.2.Rows_)])), (23, (.box .ex [(.v (.int .u64 y23_0_15)), (.v (.bool y23_1_16)), (.sref 1462)])), (1462, (.rows true 43 4 (y1462_17.map e_api_Row)))]⟩) [⟨true, [(7, (.bref 21 0))], [(21, (.box .ex [(S y21_0_11), (.v (.int .u32 y21_1_12)), (.v (.bool y21_2_13)), (L 4 e_api_Row y21_3_14)]))], (.bref 21 0), [], false, []⟩, ⟨true, [(2, (L 2 e_watchbilllaw27_Step a2))], [], (L 2 e_watchbilllaw27_Step a2), [], false, []⟩, ⟨true, [(10, (.v (.int .i64 x10_10)))], [], (.v (.int .i64 x10_10)), [], false, []⟩, ⟨true, [(40, (L 2 e_watchbilllaw27_Step a2)), (41, (.v (.int .i64 x10_10)))], [], (.fp (e_watchbilllaw27_Step (rd a2 x10_10)) 0), [], false, []⟩, ⟨true, [(42, (.fp (e_watchbilllaw27_Step (rd a2 x10_10)) 0))], [], (.fp (e_watchbilllaw27_Step (rd a2 x10_10)) 0), [], false, []⟩, ⟨true, [(43, (.fp (e_watchbilllaw27_Step (rd a2 x10_10)) 0))], [], (L 4 e_api_Row ((rd a2 x10_10).Rows)), [], false, []⟩, ⟨true, [(2, (L 2 e_watchbilllaw27_Step a2))], [], (L 2 e_watchbilllaw27_Step a2), [], false, []⟩, ⟨true, [(10, (.v (.int .i64 x10_10)))], [], (.v (.int .i64 x10_10)), [], false, []⟩, ⟨true, [(45, (L 2 e_watchbilllaw27_Step a2)), (46, (.v (.int .i64 x10_10)))], [], (.fp (e_watchbilllaw27_Step (rd a2 x10_10)) 0), [], false, []⟩, ⟨true, [(47, (.fp (e_watchbilllaw27_Step (rd a2 x10_10)) 0))], [], (.fp (e_watchbilllaw27_Step (rd a2 x10_10)) 1), [], false, []⟩, ⟨true, [(48, (.fp (e_watchbilllaw27_Step (rd a2 x10_10)) 1))], [], (.v (.bool ((rd a2 x10_10).Full))), [], false, []⟩, ⟨true, [(39, (.bref 21 0)), (44, (L 4 e_api_Row ((rd a2 x10_10).Rows))), (49, (.v (.bool ((rd a2 x10_10).Full))))], [(21, (.box .ex [(S y21_0_11), (.v (.int .u32 y21_1_12)), (.v (.bool y21_2_13)), (L 4 e_api_Row y21_3_14)]))], (.tup [(.agg (e_api_Body t33.1)), (.v (.bool t33.2.1)), (.v (.int .i64 t33.2.2.1))]), [(21, (.box .ex [(S t33.2.2.2.List_), (.v (.int .u32 t33.2.2.2.Next_)), (.v (.bool t33.2.2.2.Begun_)), (L 4 e_api_Row t33.2.2.2.Rows_)]))], false, []⟩, ⟨true, [(50, (.tup [(.agg (e_api_Body t33.1)), (.v (.bool t33.2.1)), (.v (.int .i64 t33.2.2.1))]))], [], (.tup [(.agg (e_api_Body t33.1)), (.v (.bool t33.2.1)), (.v (.int .i64 t33.2.2.1))]), [], false, []⟩, ⟨true, [(38, (.tup [(.agg (e_api_Body t33.1)), (.v (.bool t33.2.1)), (.v (.int .i64 t33.2.2.1))]))], [], (.agg (e_api_Body t33.1)), [], false, []⟩, ⟨true, [(38, (.tup [(.agg (e_api_Body t33.1)), (.v (.bool t33.2.1)), (.v (.int .i64 t33.2.2.1))]))], [], (.v (.bool t33.2.1)), [], false, []⟩, ⟨true, [(38, (.tup [(.agg (e_api_Body t33.1)), (.v (.bool t33.2.1)), (.v (.int .i64 t33.2.2.1))]))], [], (.v (.int .i64 t33.2.2.1)), [], false, []⟩, ⟨true, [], [], (.bref 11 0), [(11, (.box .ex [(S ([] : Str)), (.v (.int .u32 0)), (.v (.bool false)), (L 4 e_api_Row ([] : List T_api_Row))]))], true, []⟩, ⟨true, [(11, (.bref 11 0)), (51, (.agg (e_api_Body t33.1)))], [(11, (.box .ex [(S ([] : Str)), (.v (.int .u32 0)), (.v (.bool false)), (L 4 e_api_Row ([] : List T_api_Row))]))], .junk, [(11, (.box .ex [(S t33.1.List_), (.v (.int .u32 t33.1.Version)), (.v (.bool t33.1.Full)), (L 4 e_api_Row t33.1.Rows)]))], false, []⟩, ⟨true, [(52, (.v (.bool t33.2.1)))], [], (.v (.bool t33.2.1)), [], false, []⟩, ⟨true, [(53, (.v (.int .i64 t33.2.2.1)))], [], (.v (.int .i64 t33.2.2.1)), [], false, []⟩] [[], [], [], [1, 2], [3], [4], [], [], [6, 7], [8], [9], [0, 5, 10], [11], [12], [12], [12], [], [13, 16], [14], [15]] mixed (by kernel_rfl) ?_ ?_
            · refine TxtE2.cons ⟨.same _, trivial⟩ ⟨rfl, trivial⟩ (It2.val rfl rfl (fun T hT => (VOk.g (VOk.mv (d := (.bref 21 0)) rfl rfl)))) ?_
              refine TxtE2.cons ⟨.same _, trivial⟩ trivial (It2.val rfl rfl (fun T hT => (VOk.g (VOk.mv (d := (L 2 e_watchbilllaw27_Step a2)) rfl rfl)))) ?_
              refine TxtE2.cons ⟨.same _, trivial⟩ trivial (It2.val rfl rfl (fun T hT => (VOk.g (VOk.mv (d := (.v (.int .i64 x10_10))) rfl rfl)))) ?_
              refine TxtE2.cons ⟨.same _, .same _, trivial⟩ trivial (It2.val rfl rfl (fun T hT => (VOk.g (VOk.indexL (sz := 2) (e := e_watchbilllaw27_Step) (xs := a2) (i := x10_10) rfl Try.underlying23 sz32 rfl rfl c31)))) ?_
              refine TxtE2.cons ⟨.same _, trivial⟩ trivial (It2.val rfl rfl (fun T hT => (VOk.g (VOk.to (VOk.fieldFp rfl Try.underlying32 rfl sz28 rfl) rfl)))) ?_
              refine TxtE2.cons ⟨.same _, trivial⟩ trivial (It2.val rfl rfl (fun T hT => (VOk.g (VOk.loadFp (d := (L 4 e_api_Row ((rd a2 x10_10).Rows))) rfl Try.underlying28 rfl rfl rfl)))) ?_
              refine TxtE2.cons ⟨.same _, trivial⟩ trivial (It2.val rfl rfl (fun T hT => (VOk.g (VOk.mv (d := (L 2 e_watchbilllaw27_Step a2)) rfl rfl)))) ?_
              refine TxtE2.cons ⟨.same _, trivial⟩ trivial (It2.val rfl rfl (fun T hT => (VOk.g (VOk.mv (d := (.v (.int .i64 x10_10))) rfl rfl)))) ?_
              refine TxtE2.cons ⟨.same _, .same _, trivial⟩ trivial (It2.val rfl rfl (fun T hT => (VOk.g (VOk.indexL (sz := 2) (e := e_watchbilllaw27_Step) (xs := a2) (i := x10_10) rfl Try.underlying23 sz32 rfl rfl c32)))) ?_
              refine TxtE2.cons ⟨.same _, trivial⟩ trivial (It2.val rfl rfl (fun T hT => (VOk.g (VOk.to (VOk.fieldFp rfl Try.underlying32 rfl sz4 rfl) rfl)))) ?_
              refine TxtE2.cons ⟨.same _, trivial⟩ trivial (It2.val rfl rfl (fun T hT => (VOk.g (VOk.loadFp (d := (.v (.bool ((rd a2 x10_10).Full)))) rfl Try.underlying4 rfl rfl rfl)))) ?_
              refine TxtE2.cons ⟨.same _, .same _, .same _, trivial⟩ ⟨rfl, trivial⟩ (It2.callB (ds0 := [(.bref 21 0), (L 4 e_api_Row ((rd a2 x10_10).Rows)), (.v (.bool ((rd a2 x10_10).Full)))]) 21 rfl rfl rfl cl11 (fun b => ((subs_Sub_Next.ok h34) b)) rfl rfl rfl rfl rfl rfl rfl rfl) ?_
              refine TxtE2.cons ⟨.same _, trivial⟩ trivial (It2.val rfl rfl (fun T hT => (VOk.g (VOk.mv (d := (.tup [(.agg (e_api_Body t33.1)), (.v (.bool t33.2.1)), (.v (.int .i64 t33.2.2.1))])) rfl rfl)))) ?_
              refine TxtE2.cons ⟨.same _, trivial⟩ trivial (It2.val rfl rfl (fun T hT => (VOk.g (VOk.extract (d := (.agg (e_api_Body t33.1))) rfl rfl rfl)))) ?_
              refine TxtE2.cons ⟨.same _, trivial⟩ trivial (It2.val rfl rfl (fun T hT => (VOk.g (VOk.extract (d := (.v (.bool t33.2.1))) rfl rfl rfl)))) ?_
              refine TxtE2.cons ⟨.same _, trivial⟩ trivial (It2.val rfl rfl (fun T hT => (VOk.g (VOk.extract (d := (.v (.int .i64 t33.2.2.1))) rfl rfl rfl)))) ?_
              refine TxtE2.cons trivial trivial (It2.alloc 11 [none, none, none, some 4] rfl rfl zo34 rfl rfl) ?_
              refine TxtE2.cons ⟨.same _, .same _, trivial⟩ ⟨rfl, trivial⟩ (It2.store rfl rfl sz34 rfl rfl rfl rfl rfl rfl rfl rfl) ?_
              refine TxtE2.cons ⟨.same _, trivial⟩ trivial (It2.val rfl rfl (fun T hT => (VOk.g (VOk.asg (d := (.v (.bool t33.2.1))) rfl rfl)))) ?_
              refine TxtE2.cons ⟨.same _, trivial⟩ trivial (It2.val rfl rfl (fun T hT => (VOk.g (VOk.asg (d := (.v (.int .i64 t33.2.2.1))) rfl rfl)))) ?_
              exact .done (.mk ⟨.same _, .same _, .same _, .same _, .same _, .same _, .same _, .same _, .same _, trivial⟩ ⟨.same _, .same _, .same _, .same _, trivial⟩)
            refine Ok.seq ?_
            refine Ok.seq ?_
            refine Ok.region (σ' := ⟨[(0, (S a0)), (2, (L 2 e_watchbilllaw27_Step a2)), (7, (.bref 21 0)), (8, (.bref 23 0)), (9, (.v (.int .u64 x9_9))), (10, (.v (.int .i64 x10_10))), (11, (.bref 11 0)), (12, (.v (.bool t33.2.1))), (13, (.v (.int .i64 t33.2.2.1))), (55, (.v (.bool (t33.2.2.1 != 0))))], [(11, (.box .ex [(S t33.1.List_), (.v (.int .u32 t33.1.Version)), (.v (.bool t33.1.Full)), (L 4 e_api_Row t33.1.Rows)])), (21, (.box .ex [(S t33.2.2.2.List_), (.v (.int .u32 t33.2.2.2.Next_)), (.v (.bool t33.2.2.2.Begun_)), (L 4 e_api_Row t33.2.2.2.Rows_)])), (23, (.box .ex [(.v (.int .u64 y23_0_15)), (.v (.bool y23_1_16)), (.sref 1462)])), (1462, (.rows true 43 4 (y1462_17.map e_api_Row)))]⟩) ?_ ?_
            · refine OpsOk.cons rfl (.v (VOk.mv (d := (.v (.int .i64 t33.2.2.1))) rfl rfl) rfl) ?_
              refine OpsOk.cons rfl (.v (VOk.arith (op := .neq) (k := .i64) (a := t33.2.2.1) (b := 0) rfl rfl rfl rfl) rfl) ?_
              exact .done (.mk ⟨.same _, .same _, .same _, .same _, .same _, .same _, .same _, .same _, .same _, .same _, trivial⟩ ⟨.same _, .same _, .same _, .same _, trivial⟩)
            refine Ok.test (b := (t33.2.2.1 != 0)) rfl (fun hb58 => ?_) (fun hb58 => ?_)
            · replace H := ifT H hb58
              refine Ok.seq ?_
              refine Ok.region (σ' := ⟨[(6, (.v (.bool (((t33.2.2.1 == 49) && (x9_9 == 4294967295)) && (!t33.2.1)))))], []⟩) ?_ ?_
              · refine OpsOk.cons rfl (.v (VOk.mv (d := (.v (.int .i64 t33.2.2.1))) rfl rfl) rfl) ?_
                refine OpsOk.cons rfl (.v (VOk.arith (op := .eql) (k := .i64) (a := t33.2.2.1) (b := 49) rfl rfl rfl rfl) rfl) ?_
                refine OpsOk.cons rfl (.v (VOk.mv (d := (.v (.bool (t33.2.2.1 == 49)))) rfl rfl) rfl) ?_
                refine OpsOk.consI rfl rfl rfl (.one rfl) rfl (fun hw35 => (VOk.g (VOk.mv (d := (.v (.int .u64 x9_9))) rfl rfl))) ?_
                refine OpsOk.consI rfl rfl rfl (.one rfl) rfl (fun hw35 => (GOk.fr (fr' := [(59, (.v (.int .u64 x9_9)))]) ⟨DLe.of_eq (cT hw35).symm, trivial⟩ (VOk.g (VOk.arith (op := .eql) (k := .u64) (a := x9_9) (b := 4294967295) rfl rfl rfl rfl)))) ?_
                refine OpsOk.cons rfl (.v (VOk.to (VOk.pickI (b := (t33.2.2.1 == 49)) (p := (x9_9 == 4294967295)) (q := false) rfl rfl (fun hp36 => (cT (t_beq hp36))) (fun hp36 => rfl)) (pickAnd (t33.2.2.1 == 49) (x9_9 == 4294967295))) rfl) ?_
                refine OpsOk.cons rfl (.v (VOk.mv (d := (.v (.bool ((t33.2.2.1 == 49) && (x9_9 == 4294967295))))) rfl rfl) rfl) ?_
                refine OpsOk.consI rfl rfl rfl (.one rfl) rfl (fun hw37 => (VOk.g (VOk.mv (d := (.v (.bool t33.2.1))) rfl rfl))) ?_
                refine OpsOk.consI rfl rfl rfl (.one rfl) rfl (fun hw37 => (GOk.fr (fr' := [(63, (.v (.bool t33.2.1)))]) ⟨DLe.of_eq (cT hw37).symm, trivial⟩ (VOk.g (VOk.not (b := t33.2.1) rfl rfl)))) ?_
                refine OpsOk.cons rfl (.v (VOk.to (VOk.pickI (b := ((t33.2.2.1 == 49) && (x9_9 == 4294967295))) (p := (!t33.2.1)) (q := false) rfl rfl (fun hp38 => (cT (t_beq hp38))) (fun hp38 => rfl)) (pickAnd ((t33.2.2.1 == 49) && (x9_9 == 4294967295)) (!t33.2.1))) rfl) ?_
                refine OpsOk.cons rfl (.v (VOk.asg (d := (.v (.bool (((t33.2.2.1 == 49) && (x9_9 == 4294967295)) && (!t33.2.1))))) rfl rfl) rfl) ?_
                exact .done (.mk ⟨.same _, trivial⟩ trivial)
              refine Ok.le (σ' := ⟨[(6, (.v (.bool (((t33.2.2.1 == 49) && (x9_9 == 4294967295)) && (!t33.2.1)))))], []⟩) (.mk ⟨.same _, trivial⟩ trivial) ?_
              refine Ok.ret ?_
              obtain rfl := Option.some.inj H
              exact ⟨.inl rfl, ⟨_, (.cons (.tmp rfl) .nil), rfl⟩, trivial⟩
            · replace H := ifF H hb58
              refine Ok.le (σ' := ⟨[(0, (S a0)), (2, (L 2 e_watchbilllaw27_Step a2)), (7, (.bref 21 0)), (8, (.bref 23 0)), (9, (.v (.int .u64 x9_9))), (10, (.v (.int .i64 x10_10))), (11, (.bref 11 0)), (12, (.v (.bool t33.2.1)))], [(11, (.box .ex [(S t33.1.List_), (.v (.int .u32 t33.1.Version)), (.v (.bool t33.1.Full)), (L 4 e_api_Row t33.1.Rows)])), (21, (.box .ex [(S t33.2.2.2.List_), (.v (.int .u32 t33.2.2.2.Next_)), (.v (.bool t33.2.2.2.Begun_)), (L 4 e_api_Row t33.2.2.2.Rows_)])), (23, (.box .ex [(.v (.int .u64 y23_0_15)), (.v (.bool y23_1_16)), (.sref 1462)])), (1462, (.rows true 43 4 (y1462_17.map e_api_Row)))]⟩) (.mk ⟨.same _, .same _, .same _, .same _, .same _, .same _, .same _, .same _, trivial⟩ ⟨.same _, .same _, .same _, .same _, trivial⟩) ?_
              refine Ok.skip ?_
              refine Ok.meet (fun σ => ∃ (x9_39 : Int) (y23_0_40 : Int) (y23_1_41 : Bool) (y1462_42 : List T_api_Row), σ = ⟨[(0, (S a0)), (2, (L 2 e_watchbilllaw27_Step a2)), (7, (.bref 21 0)), (8, (.bref 23 0)), (9, (.v (.int .u64 x9_39))), (10, (.v (.int .i64 x10_10)))], [(21, (.box .ex [(S t33.2.2.2.List_), (.v (.int .u32 t33.2.2.2.Next_)), (.v (.bool t33.2.2.2.Begun_)), (L 4 e_api_Row t33.2.2.2.Rows_)])), (23, (.box .ex [(.v (.int .u64 y23_0_40)), (.v (.bool y23_1_41)), (.sref 1462)])), (1462, (.rows true 43 4 (y1462_42.map e_api_Row)))]⟩ ∧ watchbilllaw27_SubsFold.j1 k (watchbilllaw27_SubsFold.l0 k a0 a2 m27) a0 a2 x10_10 t33 x9_39 y23_0_40 y23_1_41 y1462_42 = some r) ?_ ?_
              · refine Ok.seq ?_
                refine Ok.region (σ' := ⟨[(0, (S a0)), (2, (L 2 e_watchbilllaw27_Step a2)), (7, (.bref 21 0)), (8, (.bref 23 0)), (9, (.v (.int .u64 x9_9))), (10, (.v (.int .i64 x10_10))), (11, (.bref 11 0)), (66, (.v (.bool t33.2.1)))], [(11, (.box .ex [(S t33.1.List_), (.v (.int .u32 t33.1.Version)), (.v (.bool t33.1.Full)), (L 4 e_api_Row t33.1.Rows)])), (21, (.box .ex [(S t33.2.2.2.List_), (.v (.int .u32 t33.2.2.2.Next_)), (.v (.bool t33.2.2.2.Begun_)), (L 4 e_api_Row t33.2.2.2.Rows_)])), (23, (.box .ex [(.v (.int .u64 y23_0_15)), (.v (.bool y23_1_16)), (.sref 1462)])), (1462, (.rows true 43 4 (y1462_17.map e_api_Row)))]⟩) ?_ ?_
                · refine OpsOk.cons rfl (.v (VOk.mv (d := (.v (.bool t33.2.1))) rfl rfl) rfl) ?_
                  exact .done (.mk ⟨.same _, .same _, .same _, .same _, .same _, .same _, .same _, .same _, trivial⟩ ⟨.same _, .same _, .same _, .same _, trivial⟩)
                refine Ok.test (b := t33.2.1) rfl (fun hb57 => ?_) (fun hb57 => ?_)
                · replace H := ifT H hb57
                  refine Ok.seq ?_
                  refine Ok.seq ?_
                  refine Ok.regionC ?_
                  refine OpsC.cons rfl (.v (VOk.to (VOk.fieldB rfl Try.underlying34 rfl sz22 rfl rfl) rfl) rfl) ?_
                  refine OpsC.cons rfl (.v (VOk.loadB (d := (.v (.int .u32 t33.1.Version))) rfl Try.underlying22 rfl rfl rfl rfl) rfl) ?_
                  refine OpsC.cons rfl (.v (VOk.convInt (a := t33.1.Version) rfl (by rw [Try.underlying22]; rfl) Try.underlying48 rfl) rfl) ?_
                  refine OpsC.cons rfl (.v (VOk.mv (d := (.v (.int .u64 x9_9))) rfl rfl) rfl) ?_
                  refine OpsC.cons rfl (.v (VOk.arith (op := .neq) (k := .u64) (a := (IntKind.u64.wrap t33.1.Version)) (b := x9_9) rfl rfl rfl rfl) rfl) ?_
                  refine OpsC.cons rfl (.v (VOk.mv (d := (.v (.bool ((IntKind.u64.wrap t33.1.Version) != x9_9)))) rfl rfl) rfl) ?_
                  refine OpsC.consI rfl rfl rfl (.one rfl) rfl (fun hw49 => (VOk.g (VOk.to (VOk.fieldB rfl Try.underlying34 rfl sz9 rfl rfl) rfl))) ?_
                  refine OpsC.consI rfl rfl rfl (.one rfl) rfl (fun hw49 => (GOk.fr (fr' := [(73, (.bref 11 0))]) ⟨DLe.of_eq (cT hw49).symm, trivial⟩ (VOk.g (VOk.loadB (d := (S t33.1.List_)) rfl Try.underlying9 rfl rfl rfl rfl)))) ?_
                  refine OpsC.consI rfl rfl rfl (.one rfl) rfl (fun hw49 => (VOk.g (VOk.mv (d := (S a0)) rfl rfl))) ?_
                  refine OpsC.consI rfl rfl rfl (.one rfl) rfl (fun hw49 => (GOk.fr (fr' := [(74, (S t33.1.List_)), (75, (S a0))]) ⟨DLe.of_eq (cT hw49).symm, DLe.of_eq (cT hw49).symm, trivial⟩ (VOk.g (VOk.strOp (op := .neq) (a := t33.1.List_) (b := a0) rfl rfl rfl rfl)))) ?_
                  refine OpsC.cons rfl (.v (VOk.to (VOk.pickI (b := ((IntKind.u64.wrap t33.1.Version) != x9_9)) (p := true) (q := (!(t33.1.List_ == a0))) rfl rfl (fun hp50 => rfl) (fun hp50 => (cT (f_beq hp50)))) (pickOr ((IntKind.u64.wrap t33.1.Version) != x9_9) (!(t33.1.List_ == a0)))) rfl) ?_
                  refine OpsC.cons rfl (.v (VOk.mv (d := (.v (.bool (((IntKind.u64.wrap t33.1.Version) != x9_9) || (!(t33.1.List_ == a0)))))) rfl rfl) rfl) ?_
                  refine OpsC.consI rfl rfl rfl (.one rfl) rfl (fun hw51 => (VOk.g (VOk.mv (d := (.bref 23 0)) rfl rfl))) ?_
                  refine OpsC.consI rfl rfl rfl (.one rfl) rfl (fun hw51 => (VOk.g (VOk.to (d' := (.agg (e_api_Body t33.1))) (.loadBAgg rfl Try.underlying34 rfl sz34 rfl rfl rfl) rfl))) ?_
                  refine OpsC.split ((((IntKind.u64.wrap t33.1.Version) != x9_9) || (!(t33.1.List_ == a0)))) (fun hT52 => ?_) (fun hF53 => ?_)
                  · replace H := ifT H hT52
                    refine OpsC.cut (σ := ⟨[(0, (S a0)), (2, (L 2 e_watchbilllaw27_Step a2)), (7, (.bref 21 0)), (8, (.bref 23 0)), (9, (.v (.int .u64 x9_9))), (10, (.v (.int .i64 x10_10))), (78, (.v (.bool (((IntKind.u64.wrap t33.1.Version) != x9_9) || (!(t33.1.List_ == a0))))))], [(21, (.box .ex [(S t33.2.2.2.List_), (.v (.int .u32 t33.2.2.2.Next_)), (.v (.bool t33.2.2.2.Begun_)), (L 4 e_api_Row t33.2.2.2.Rows_)])), (23, (.box .ex [(.v (.int .u64 y23_0_15)), (.v (.bool y23_1_16)), (.sref 1462)])), (1462, (.rows true 43 4 (y1462_17.map e_api_Row)))]⟩) (.mk ⟨.same _, .same _, .same _, .same _, .same _, .same _, .same _, trivial⟩ ⟨.same _, .same _, .same _, trivial⟩) ?_
                    refine OpsC.consN rfl rfl rfl rfl hT52 rfl ?_
                    refine OpsC.consN rfl rfl rfl rfl hT52 rfl ?_
                    refine OpsC.cons rfl (.v (VOk.pickT (d := (.v (.bool true))) rfl rfl hT52 rfl) rfl) ?_
                    refine OpsC.done (σ' := ⟨[(0, (S a0)), (2, (L 2 e_watchbilllaw27_Step a2)), (7, (.bref 21 0)), (8, (.bref 23 0)), (9, (.v (.int .u64 x9_9))), (10, (.v (.int .i64 x10_10))), (83, (.v (.bool true)))], [(21, (.box .ex [(S t33.2.2.2.List_), (.v (.int .u32 t33.2.2.2.Next_)), (.v (.bool t33.2.2.2.Begun_)), (L 4 e_api_Row t33.2.2.2.Rows_)])), (23, (.box .ex [(.v (.int .u64 y23_0_15)), (.v (.bool y23_1_16)), (.sref 1462)])), (1462, (.rows true 43 4 (y1462_17.map e_api_Row)))]⟩) (.mk ⟨.same _, .same _, .same _, .same _, .same _, .same _, .same _, trivial⟩ ⟨.same _, .same _, .same _, trivial⟩) ?_
                    refine Ok.condT rfl ?_
                    refine Ok.seq ?_
                    refine Ok.region (σ' := ⟨[(6, (.v (.bool false)))], []⟩) ?_ ?_
                    · refine OpsOk.cons rfl (.v (VOk.asg (d := (.v (.bool false))) rfl rfl) rfl) ?_
                      exact .done (.mk ⟨.same _, trivial⟩ trivial)
                    refine Ok.le (σ' := ⟨[(6, (.v (.bool false)))], []⟩) (.mk ⟨.same _, trivial⟩ trivial) ?_
                    refine Ok.ret ?_
                    obtain rfl := Option.some.inj H
                    exact ⟨.inl rfl, ⟨_, (.cons (.tmp rfl) .nil), rfl⟩, trivial⟩
                  · replace H := ifF H hF53
                    obtain ⟨t54, h55, H⟩ := bindE H
                    refine OpsC.cut (σ := ⟨[(0, (S a0)), (2, (L 2 e_watchbilllaw27_Step a2)), (7, (.bref 21 0)), (8, (.bref 23 0)), (9, (.v (.int .u64 x9_9))), (10, (.v (.int .i64 x10_10))), (78, (.v (.bool (((IntKind.u64.wrap t33.1.Version) != x9_9) || (!(t33.1.List_ == a0)))))), (79, (.bref 23 0)), (80, (.agg (e_api_Body t33.1)))], [(21, (.box .ex [(S t33.2.2.2.List_), (.v (.int .u32 t33.2.2.2.Next_)), (.v (.bool t33.2.2.2.Begun_)), (L 4 e_api_Row t33.2.2.2.Rows_)])), (23, (.box .ex [(.v (.int .u64 y23_0_15)), (.v (.bool y23_1_16)), (.sref 1462)])), (1462, (.rows true 43 4 (y1462_17.map e_api_Row)))]⟩) (.mk ⟨.same _, .same _, .same _, .same _, .same _, .same _, .same _, DLe.of_eq (cT (f_beq hF53)).symm, DLe.of_eq (cT (f_beq hF53)).symm, trivial⟩ ⟨.same _, .same _, .same _, trivial⟩) ?_
                    refine OpsC.consG rfl rfl rfl rfl hF53 (OpOk.callT 23 1462 981 rfl rfl cl17 (fun b => ((subs_Client_Take.ok h55) b)) rfl rfl rfl rfl rfl rfl rfl rfl) ?_
                    refine OpsC.consG rfl rfl rfl rfl hF53 (.v (VOk.arith (op := .neq) (k := .i64) (a := t54.1) (b := 0) rfl rfl rfl rfl) rfl) ?_
                    refine OpsC.cons rfl (.v (VOk.pickF (d := (.v (.bool (t54.1 != 0)))) rfl rfl hF53 rfl) rfl) ?_
                    refine OpsC.done (σ' := ⟨[(0, (S a0)), (2, (L 2 e_watchbilllaw27_Step a2)), (7, (.bref 21 0)), (8, (.bref 23 0)), (9, (.v (.int .u64 x9_9))), (10, (.v (.int .i64 x10_10))), (83, (.v (.bool (t54.1 != 0))))], [(21, (.box .ex [(S t33.2.2.2.List_), (.v (.int .u32 t33.2.2.2.Next_)), (.v (.bool t33.2.2.2.Begun_)), (L 4 e_api_Row t33.2.2.2.Rows_)])), (23, (.box .ex [(.v (.int .u64 t54.2.Next_)), (.v (.bool t54.2.Begun_)), (.sref 1462)])), (1462, (.rows true 43 4 (t54.2.Rows_.map e_api_Row)))]⟩) (.mk ⟨.same _, .same _, .same _, .same _, .same _, .same _, .same _, trivial⟩ ⟨.same _, .same _, .same _, trivial⟩) ?_
                    refine Ok.test (b := (t54.1 != 0)) rfl (fun hb56 => ?_) (fun hb56 => ?_)
                    · replace H := ifT H hb56
                      refine Ok.seq ?_
                      refine Ok.region (σ' := ⟨[(6, (.v (.bool false)))], []⟩) ?_ ?_
                      · refine OpsOk.cons rfl (.v (VOk.asg (d := (.v (.bool false))) rfl rfl) rfl) ?_
                        exact .done (.mk ⟨.same _, trivial⟩ trivial)
                      refine Ok.le (σ' := ⟨[(6, (.v (.bool false)))], []⟩) (.mk ⟨.same _, trivial⟩ trivial) ?_
                      refine Ok.ret ?_
                      obtain rfl := Option.some.inj H
                      exact ⟨.inl rfl, ⟨_, (.cons (.tmp rfl) .nil), rfl⟩, trivial⟩
                    · replace H := ifF H hb56
                      refine Ok.le (σ' := ⟨[(0, (S a0)), (2, (L 2 e_watchbilllaw27_Step a2)), (7, (.bref 21 0)), (8, (.bref 23 0)), (9, (.v (.int .u64 x9_9))), (10, (.v (.int .i64 x10_10)))], [(21, (.box .ex [(S t33.2.2.2.List_), (.v (.int .u32 t33.2.2.2.Next_)), (.v (.bool t33.2.2.2.Begun_)), (L 4 e_api_Row t33.2.2.2.Rows_)])), (23, (.box .ex [(.v (.int .u64 t54.2.Next_)), (.v (.bool t54.2.Begun_)), (.sref 1462)])), (1462, (.rows true 43 4 (t54.2.Rows_.map e_api_Row)))]⟩) (.mk ⟨.same _, .same _, .same _, .same _, .same _, .same _, trivial⟩ ⟨.same _, .same _, .same _, trivial⟩) ?_
                      refine Ok.skip ?_
                      refine Ok.region (σ' := ⟨[(0, (S a0)), (2, (L 2 e_watchbilllaw27_Step a2)), (7, (.bref 21 0)), (8, (.bref 23 0)), (9, (.v (.int .u64 (IntKind.u64.wrap (x9_9 + 1))))), (10, (.v (.int .i64 x10_10)))], [(21, (.box .ex [(S t33.2.2.2.List_), (.v (.int .u32 t33.2.2.2.Next_)), (.v (.bool t33.2.2.2.Begun_)), (L 4 e_api_Row t33.2.2.2.Rows_)])), (23, (.box .ex [(.v (.int .u64 t54.2.Next_)), (.v (.bool t54.2.Begun_)), (.sref 1462)])), (1462, (.rows true 43 4 (t54.2.Rows_.map e_api_Row)))]⟩) ?_ ?_
                      · refine OpsOk.cons rfl (.v (VOk.mv (d := (.v (.int .u64 x9_9))) rfl rfl) rfl) ?_
                        refine OpsOk.cons rfl (.v (VOk.arith (op := .add) (k := .u64) (a := x9_9) (b := 1) rfl rfl rfl rfl) rfl) ?_
                        refine OpsOk.cons rfl (.v (VOk.asg (d := (.v (.int .u64 (IntKind.u64.wrap (x9_9 + 1))))) rfl rfl) rfl) ?_
                        exact .done (.mk ⟨.same _, .same _, .same _, .same _, .same _, .same _, trivial⟩ ⟨.same _, .same _, .same _, trivial⟩)
                      exact ⟨(IntKind.u64.wrap (x9_9 + 1)), t54.2.Next_, t54.2.Begun_, t54.2.Rows_, rfl, H⟩
                · replace H := ifF H hb57
                  refine Ok.le (σ' := ⟨[(0, (S a0)), (2, (L 2 e_watchbilllaw27_Step a2)), (7, (.bref 21 0)), (8, (.bref 23 0)), (9, (.v (.int .u64 x9_9))), (10, (.v (.int .i64 x10_10)))], [(21, (.box .ex [(S t33.2.2.2.List_), (.v (.int .u32 t33.2.2.2.Next_)), (.v (.bool t33.2.2.2.Begun_)), (L 4 e_api_Row t33.2.2.2.Rows_)])), (23, (.box .ex [(.v (.int .u64 y23_0_15)), (.v (.bool y23_1_16)), (.sref 1462)])), (1462, (.rows true 43 4 (y1462_17.map e_api_Row)))]⟩) (.mk ⟨.same _, .same _, .same _, .same _, .same _, .same _, trivial⟩ ⟨.same _, .same _, .same _, trivial⟩) ?_
                  refine Ok.skip ?_
                  exact ⟨x9_9, y23_0_15, y23_1_16, y1462_17, rfl, H⟩
              · rintro σ ⟨x9_39, y23_0_40, y23_1_41, y1462_42, rfl, H⟩
                unfold watchbilllaw27_SubsFold.j1 at H
                refine Ok.seq ?_
                obtain ⟨t43, h44, H⟩ := bindE H
                obtain ⟨c45, H⟩ := assertE H
                obtain ⟨t46, h47, H⟩ := bindE H
                refine Ok.drawE (σ' := ⟨[(0, (S a0)), (2, (L 2 e_watchbilllaw27_Step a2)), (7, (.bref 21 0)), (8, (.bref 23 0)), (9, (.v (.int .u64 x9_39))), (10, (.v (.int .i64 x10_10))), (94, (.v (.bool (!t46))))], [(21, (.box .ex [(S t33.2.2.2.List_), (.v (.int .u32 t33.2.2.2.Next_)), (.v (.bool t33.2.2.2.Begun_)), (L 4 e_api_Row t33.2.2.2.Rows_)])), (23, (.box .ex [(.v (.int .u64 y23_0_40)), (.v (.bool y23_1_41)), (.sref 1462)])), (1462, (.rows true 43 4 (y1462_42.map e_api_Row)))]⟩) [⟨true, [(8, (.bref 23 0))], (.bref 23 0)⟩, ⟨true, [(86, (.bref 23 0))], (L 4 e_api_Row t43)⟩, ⟨true, [(2, (L 2 e_watchbilllaw27_Step a2))], (L 2 e_watchbilllaw27_Step a2)⟩, ⟨true, [(10, (.v (.int .i64 x10_10)))], (.v (.int .i64 x10_10))⟩, ⟨true, [(88, (L 2 e_watchbilllaw27_Step a2)), (89, (.v (.int .i64 x10_10)))], (.fp (e_watchbilllaw27_Step (rd a2 x10_10)) 0)⟩, ⟨true, [(90, (.fp (e_watchbilllaw27_Step (rd a2 x10_10)) 0))], (.fp (e_watchbilllaw27_Step (rd a2 x10_10)) 0)⟩, ⟨true, [(91, (.fp (e_watchbilllaw27_Step (rd a2 x10_10)) 0))], (L 4 e_api_Row ((rd a2 x10_10).Rows))⟩, ⟨true, [(87, (L 4 e_api_Row t43)), (92, (L 4 e_api_Row ((rd a2 x10_10).Rows)))], (.v (.bool t46))⟩, ⟨true, [(93, (.v (.bool t46)))], (.v (.bool (!t46)))⟩] [[], [0], [], [], [2, 3], [4], [5], [1, 6], [7]] mixed (by kernel_rfl) ?_ ?_
                · refine TxtE.cons rfl ⟨.same _, trivial⟩ rfl (VOk.g (VOk.mv (d := (.bref 23 0)) rfl rfl)) ?_
                  refine TxtE.cons rfl ⟨.same _, trivial⟩ rfl (GOk.callLV (rows := t43.map e_api_Row) rfl rfl cl20 rfl (subs_Client_Rows_o.ok h44) (fun r hr => by obtain ⟨x, _, rfl⟩ := List.mem_map.1 hr; exact pl43 x)) ?_
                  refine TxtE.cons rfl ⟨.same _, trivial⟩ rfl (VOk.g (VOk.mv (d := (L 2 e_watchbilllaw27_Step a2)) rfl rfl)) ?_
                  refine TxtE.cons rfl ⟨.same _, trivial⟩ rfl (VOk.g (VOk.mv (d := (.v (.int .i64 x10_10))) rfl rfl)) ?_
                  refine TxtE.cons rfl ⟨.same _, .same _, trivial⟩ rfl (VOk.g (VOk.indexL (sz := 2) (e := e_watchbilllaw27_Step) (xs := a2) (i := x10_10) rfl Try.underlying23 sz32 rfl rfl c45)) ?_
                  refine TxtE.cons rfl ⟨.same _, trivial⟩ rfl (VOk.g (VOk.to (VOk.fieldFp rfl Try.underlying32 rfl sz28 rfl) rfl)) ?_
                  refine TxtE.cons rfl ⟨.same _, trivial⟩ rfl (VOk.g (VOk.loadFp (d := (L 4 e_api_Row ((rd a2 x10_10).Rows))) rfl Try.underlying28 rfl rfl rfl)) ?_
                  refine TxtE.cons rfl ⟨.same _, .same _, trivial⟩ rfl (GOk.call rfl rfl cl19 rfl (watchbillref24_Rows.ok h47) rfl) ?_
                  refine TxtE.cons rfl ⟨.same _, trivial⟩ rfl (VOk.g (VOk.not (b := t46) rfl rfl)) ?_
                  exact .done (.mk ⟨.same _, .same _, .same _, .same _, .same _, .same _, .same _, trivial⟩ ⟨.same _, .same _, .same _, trivial⟩)
                refine Ok.test (b := (!t46)) rfl (fun hb48 => ?_) (fun hb48 => ?_)
                · replace H := ifT H hb48
                  refine Ok.seq ?_
                  refine Ok.region (σ' := ⟨[(6, (.v (.bool false)))], []⟩) ?_ ?_
                  · refine OpsOk.cons rfl (.v (VOk.asg (d := (.v (.bool false))) rfl rfl) rfl) ?_
                    exact .done (.mk ⟨.same _, trivial⟩ trivial)
                  refine Ok.le (σ' := ⟨[(6, (.v (.bool false)))], []⟩) (.mk ⟨.same _, trivial⟩ trivial) ?_
                  refine Ok.ret ?_
                  obtain rfl := Option.some.inj H
                  exact ⟨.inl rfl, ⟨_, (.cons (.tmp rfl) .nil), rfl⟩, trivial⟩
                · replace H := ifF H hb48
                  refine Ok.le (σ' := ⟨[(0, (S a0)), (2, (L 2 e_watchbilllaw27_Step a2)), (7, (.bref 21 0)), (8, (.bref 23 0)), (9, (.v (.int .u64 x9_39))), (10, (.v (.int .i64 x10_10)))], [(21, (.box .ex [(S t33.2.2.2.List_), (.v (.int .u32 t33.2.2.2.Next_)), (.v (.bool t33.2.2.2.Begun_)), (L 4 e_api_Row t33.2.2.2.Rows_)])), (23, (.box .ex [(.v (.int .u64 y23_0_40)), (.v (.bool y23_1_41)), (.sref 1462)])), (1462, (.rows true 43 4 (y1462_42.map e_api_Row)))]⟩) (.mk ⟨.same _, .same _, .same _, .same _, .same _, .same _, trivial⟩ ⟨.same _, .same _, .same _, trivial⟩) ?_
                  refine Ok.skip ?_
                  refine Ok.region (σ' := ⟨[(0, (S a0)), (2, (L 2 e_watchbilllaw27_Step a2)), (7, (.bref 21 0)), (8, (.bref 23 0)), (9, (.v (.int .u64 x9_39))), (10, (.v (.int .i64 (IntKind.i64.wrap (x10_10 + 1)))))], [(21, (.box .ex [(S t33.2.2.2.List_), (.v (.int .u32 t33.2.2.2.Next_)), (.v (.bool t33.2.2.2.Begun_)), (L 4 e_api_Row t33.2.2.2.Rows_)])), (23, (.box .ex [(.v (.int .u64 y23_0_40)), (.v (.bool y23_1_41)), (.sref 1462)])), (1462, (.rows true 43 4 (y1462_42.map e_api_Row)))]⟩) ?_ ?_
                  · refine OpsOk.cons rfl (.v (VOk.mv (d := (.v (.int .i64 x10_10))) rfl rfl) rfl) ?_
                    refine OpsOk.cons rfl (.v (VOk.arith (op := .add) (k := .i64) (a := x10_10) (b := 1) rfl rfl rfl rfl) rfl) ?_
                    refine OpsOk.cons rfl (.v (VOk.asg (d := (.v (.int .i64 (IntKind.i64.wrap (x10_10 + 1))))) rfl rfl) rfl) ?_
                    exact .done (.mk ⟨.same _, .same _, .same _, .same _, .same _, .same _, trivial⟩ ⟨.same _, .same _, .same _, trivial⟩)
                  exact ⟨m27, Nat.lt_succ_self m27, t33.2.2.2.List_, t33.2.2.2.Next_, t33.2.2.2.Begun_, t33.2.2.2.Rows_, y23_0_40, y23_1_41, y1462_42, (IntKind.i64.wrap (x10_10 + 1)), x9_39, rfl, H⟩
        · replace H := ifF H hb60
          refine Ok.le (σ' := ⟨[], []⟩) (.mk trivial trivial) ?_
          refine Ok.exit ?_
          refine Ok.seq ?_
          refine Ok.region (σ' := ⟨[(6, (.v (.bool true)))], []⟩) ?_ ?_
          · refine OpsOk.cons rfl (.v (VOk.asg (d := (.v (.bool true))) rfl rfl) rfl) ?_
            exact .done (.mk ⟨.same _, trivial⟩ trivial)
          refine Ok.le (σ' := ⟨[(6, (.v (.bool true)))], []⟩) (.mk ⟨.same _, trivial⟩ trivial) ?_
          refine Ok.ret ?_
          obtain rfl := Option.some.inj H
          exact ⟨.inl rfl, ⟨_, (.cons (.tmp rfl) .nil), rfl⟩, trivial⟩

end Go.Proofs.Ytkmifmkdloeeeaa.Sh
