import Derived.Test.YtldkgladombmcaaProg
import Derived.Test.YtldkgladombmcaaShc
namespace Go.Proofs.Ytldkgladombmcaa.Sh
open Go Go.RowKit Go.Proofs.Vx
set_option linter.unusedVariables false

set_option maxRecDepth 100000
set_option maxHeartbeats 1000000
/-! watchbill/watchbilllaw12.exact: function 22 -/
def watchbilllaw12_exact.l1 (k : Nat) (c0 : Int → Str → Str → List T_api_Attr → List T_api_Node → Str → List T_api_Step → Int → Option (List T_api_Step)) (a1 : List Int) (x6_1 : Int) : Nat → Int → Str → Str → List T_api_Attr → List T_api_Node → Str → Int → Str → Str → List T_api_Attr → List T_api_Node → Str → List T_api_Step → Int → Int → Option (List T_api_Step)
  | 0, _, _, _, _, _, _, _, _, _, _, _, _, _, _, _ => none
  | m50 + 1, y2_0_22, y2_1_23, y2_2_24, y2_3_25, y2_4_26, y2_5_27, y8_0_28, y8_1_29, y8_2_30, y8_3_31, y8_4_32, y8_5_33, y13_34, x7_20, x9_21 => (if (0 : Int) ≤ x6_1 ∧ x6_1 < (a1.length : Int) then (if (decide (x9_21 ≤ (rd a1 x6_1))) = true then (if (0 : Int) ≤ x9_21 ∧ x9_21 < (y2_4_26.length : Int) then (if (((((rd y2_4_26 x9_21).Kind) == 1) == true) = true → (0 : Int) ≤ x9_21 ∧ x9_21 < (y2_4_26.length : Int)) then (if ((((rd y2_4_26 x9_21).Kind) == 1) && (((rd y2_4_26 x9_21).Name).Space == (T_api_Name.mk y8_1_29 y8_2_30).Space && (((rd y2_4_26 x9_21).Name).Local == (T_api_Name.mk y8_1_29 y8_2_30).Local && true))) = true then watchbilllaw12_exact.l1 k c0 a1 x6_1 m50 y2_0_22 y2_1_23 y2_2_24 y2_3_25 y2_4_26 y2_5_27 y8_0_28 y8_1_29 y8_2_30 y8_3_31 y8_4_32 y8_5_33 y13_34 (IntKind.i64.wrap (x7_20 + 1)) (IntKind.i64.wrap (x9_21 + 1)) else watchbilllaw12_exact.l1 k c0 a1 x6_1 m50 y2_0_22 y2_1_23 y2_2_24 y2_3_25 y2_4_26 y2_5_27 y8_0_28 y8_1_29 y8_2_30 y8_3_31 y8_4_32 y8_5_33 y13_34 x7_20 (IntKind.i64.wrap (x9_21 + 1))) else none) else none) else (if (y13_34.length + ([(T_api_Step.mk 1 false (T_api_Name.mk ((T_api_Name.mk y8_1_29 y8_2_30).Space) ((T_api_Name.mk y8_1_29 y8_2_30).Local)) x7_20 false (T_api_Name.mk ([] : Str) ([] : Str)) ([] : Str))] : List T_api_Step).length) * 112 ≤ 140737488355328 then c0 ((T_api_Node.mk y8_0_28 (T_api_Name.mk y8_1_29 y8_2_30) y8_3_31 y8_4_32 y8_5_33).Kind) ((T_api_Node.mk y8_0_28 (T_api_Name.mk y8_1_29 y8_2_30) y8_3_31 y8_4_32 y8_5_33).Name.Space) ((T_api_Node.mk y8_0_28 (T_api_Name.mk y8_1_29 y8_2_30) y8_3_31 y8_4_32 y8_5_33).Name.Local) ((T_api_Node.mk y8_0_28 (T_api_Name.mk y8_1_29 y8_2_30) y8_3_31 y8_4_32 y8_5_33).Attrs) ((T_api_Node.mk y8_0_28 (T_api_Name.mk y8_1_29 y8_2_30) y8_3_31 y8_4_32 y8_5_33).Kids) ((T_api_Node.mk y8_0_28 (T_api_Name.mk y8_1_29 y8_2_30) y8_3_31 y8_4_32 y8_5_33).Text) (y13_34 ++ ([(T_api_Step.mk 1 false (T_api_Name.mk ((T_api_Name.mk y8_1_29 y8_2_30).Space) ((T_api_Name.mk y8_1_29 y8_2_30).Local)) x7_20 false (T_api_Name.mk ([] : Str) ([] : Str)) ([] : Str))] : List T_api_Step)) (IntKind.i64.wrap (x6_1 + 1)) else none)) else none)
def watchbilllaw12_exact.l0 (k : Nat) (a1 : List Int) : Nat → Int → Str → Str → List T_api_Attr → List T_api_Node → Str → List T_api_Step → Int → Option (List T_api_Step)
  | 0, _, _, _, _, _, _, _, _ => none
  | m17 + 1, y2_0_2, y2_1_3, y2_2_4, y2_3_5, y2_4_6, y2_5_7, y13_8, x6_1 => (if (decide (x6_1 < (a1.length : Int))) = true then (if (0 : Int) ≤ x6_1 ∧ x6_1 < (a1.length : Int) then (if (0 : Int) ≤ (rd a1 x6_1) ∧ (rd a1 x6_1) < (y2_4_6.length : Int) then watchbilllaw12_exact.l1 k (watchbilllaw12_exact.l0 k a1 m17) a1 x6_1 k y2_0_2 y2_1_3 y2_2_4 y2_3_5 y2_4_6 y2_5_7 ((rd y2_4_6 (rd a1 x6_1)).Kind) ((rd y2_4_6 (rd a1 x6_1)).Name.Space) ((rd y2_4_6 (rd a1 x6_1)).Name.Local) ((rd y2_4_6 (rd a1 x6_1)).Attrs) ((rd y2_4_6 (rd a1 x6_1)).Kids) ((rd y2_4_6 (rd a1 x6_1)).Text) y13_8 0 0 else none) else none) else some y13_8)
def watchbilllaw12_exact (k : Nat) (a0 : T_api_Node) (a1 : List Int) : Option (List T_api_Step) := watchbilllaw12_exact.l0 k a1 k a0.Kind a0.Name.Space a0.Name.Local a0.Attrs a0.Kids a0.Text ([(T_api_Step.mk 1 false (T_api_Name.mk a0.Name.Space a0.Name.Local) 1 false (T_api_Name.mk ([] : Str) ([] : Str)) ([] : Str))] : List T_api_Step) 0
theorem watchbilllaw12_exact.ok {k : Nat} {a0 : T_api_Node} {a1 : List Int} {r : (List T_api_Step)} (H : watchbilllaw12_exact k a0 a1 = some r) : Vx.Fn Try.prog 22 [(.agg (e_api_Node a0)), (L 1 (eI .i64) a1)] [] (L 9 e_api_Step r) [] := by
  unfold watchbilllaw12_exact at H
  refine Vx.Fn.of_okR Try.func22 rfl (Nat.le_of_ble_eq_true rfl) ?_
  refine Ok.seq ?_
  refine Ok.region (σ' := ⟨[(1, (L 1 (eI .i64) a1)), (2, (.bref 2 0))], [(2, (.box true [(.v (.int .i64 a0.Kind)), (S a0.Name.Space), (S a0.Name.Local), (L 3 e_api_Attr a0.Attrs), (L 6 e_api_Node a0.Kids), (S a0.Text)]))]⟩) ?_ ?_
  · refine OpsOk.cut (σ := ⟨[(0, (.agg [(.v (.int .i64 a0.Kind)), (S a0.Name.Space), (S a0.Name.Local), (L 3 e_api_Attr a0.Attrs), (L 6 e_api_Node a0.Kids), (S a0.Text)])), (1, (L 1 (eI .i64) a1))], []⟩) (.mk ⟨DLe.of_eq (congrArg D.agg (e_api_Node_c _).symm), .same _, trivial⟩ trivial) ?_
    refine OpsOk.cons rfl (OpOk.box 2 (cells := [(.v (.int .i64 a0.Kind)), (S a0.Name.Space), (S a0.Name.Local), (L 3 e_api_Attr a0.Attrs), (L 6 e_api_Node a0.Kids), (S a0.Text)]) rfl rfl rfl rfl) ?_
    refine OpsOk.cons rfl (.v (VOk.asg (d := (.v (.slice none 0 0))) rfl rfl) rfl) ?_
    exact .done (.mk ⟨.same _, .same _, trivial⟩ ⟨.same _, trivial⟩)
  refine Ok.seq ?_
  refine Ok.region (σ' := ⟨[(1, (L 1 (eI .i64) a1)), (2, (.bref 2 0)), (5, (.sref 13))], [(2, (.box true [(.v (.int .i64 a0.Kind)), (S a0.Name.Space), (S a0.Name.Local), (L 3 e_api_Attr a0.Attrs), (L 6 e_api_Node a0.Kids), (S a0.Text)])), (13, (.rows true 30 9 (([(T_api_Step.mk 1 false (T_api_Name.mk a0.Name.Space a0.Name.Local) 1 false (T_api_Name.mk ([] : Str) ([] : Str)) ([] : Str))] : List T_api_Step).map e_api_Step)))]⟩) ?_ ?_
  · refine OpsOk.cons rfl (.v (VOk.to (VOk.fieldB rfl Try.underlying27 rfl sz23 rfl rfl) rfl) rfl) ?_
    refine OpsOk.cons rfl (.v (VOk.to (d' := (.agg (e_api_Name a0.Name))) (.loadBAgg rfl Try.underlying23 rfl sz23 rfl rfl rfl) rfl) rfl) ?_
    refine OpsOk.cons rfl (.v (VOk.to (d' := (.agg (e_api_Step (T_api_Step.mk 1 false (T_api_Name.mk a0.Name.Space a0.Name.Local) 1 false (T_api_Name.mk ([] : Str) ([] : Str)) ([] : Str))))) (.build [none, none, none, none, none, none, none, none, none] [(0, 1), (1, 1), (2, 2), (4, 1), (5, 1), (6, 2), (8, 1)] rfl Try.underlying30 (fa30 Try.underlying30) zo30 rfl rfl) rfl) rfl) ?_
    refine OpsOk.cons rfl (OpOk.litT 13 rfl rfl Try.underlying28 sz30 zs30 rfl (rows := ([(T_api_Step.mk 1 false (T_api_Name.mk a0.Name.Space a0.Name.Local) 1 false (T_api_Name.mk ([] : Str) ([] : Str)) ([] : Str))] : List T_api_Step).map e_api_Step) rfl rfl rfl rfl) ?_
    refine OpsOk.cons rfl (.v (VOk.asg (d := (.sref 13)) rfl rfl) rfl) ?_
    exact .done (.mk ⟨.same _, .same _, .same _, trivial⟩ ⟨.same _, .same _, trivial⟩)
  refine Ok.seq ?_
  refine Ok.seq ?_
  refine Ok.region (σ' := ⟨[(1, (L 1 (eI .i64) a1)), (2, (.bref 2 0)), (5, (.sref 13)), (6, (.v (.int .i64 0)))], [(2, (.box true [(.v (.int .i64 a0.Kind)), (S a0.Name.Space), (S a0.Name.Local), (L 3 e_api_Attr a0.Attrs), (L 6 e_api_Node a0.Kids), (S a0.Text)])), (13, (.rows true 30 9 (([(T_api_Step.mk 1 false (T_api_Name.mk a0.Name.Space a0.Name.Local) 1 false (T_api_Name.mk ([] : Str) ([] : Str)) ([] : Str))] : List T_api_Step).map e_api_Step)))]⟩) ?_ ?_
  · refine OpsOk.cons rfl (.v (VOk.asg (d := (.v (.int .i64 0))) rfl rfl) rfl) ?_
    exact .done (.mk ⟨.same _, .same _, .same _, .same _, trivial⟩ ⟨.same _, .same _, trivial⟩)
  refine Ok.block ?_
  refine Ok.le (σ' := ⟨[(1, (L 1 (eI .i64) a1)), (2, (.bref 2 0)), (5, (.sref 13)), (6, (.v (.int .i64 0)))], [(2, (.box true [(.v (.int .i64 a0.Kind)), (S a0.Name.Space), (S a0.Name.Local), (L 3 e_api_Attr a0.Attrs), (L 6 e_api_Node a0.Kids), (S a0.Text)])), (13, (.rows true 30 9 (([(T_api_Step.mk 1 false (T_api_Name.mk a0.Name.Space a0.Name.Local) 1 false (T_api_Name.mk ([] : Str) ([] : Str)) ([] : Str))] : List T_api_Step).map e_api_Step)))]⟩) (.mk ⟨.same _, .same _, .same _, .same _, trivial⟩ ⟨.same _, .same _, trivial⟩) ?_
  refine Ok.loop (fun m17 σ => ∃ (y2_0_2 : Int) (y2_1_3 : Str) (y2_2_4 : Str) (y2_3_5 : List T_api_Attr) (y2_4_6 : List T_api_Node) (y2_5_7 : Str) (y13_8 : List T_api_Step) (x6_1 : Int), σ = ⟨[(1, (L 1 (eI .i64) a1)), (2, (.bref 2 0)), (5, (.sref 13)), (6, (.v (.int .i64 x6_1)))], [(2, (.box true [(.v (.int .i64 y2_0_2)), (S y2_1_3), (S y2_2_4), (L 3 e_api_Attr y2_3_5), (L 6 e_api_Node y2_4_6), (S y2_5_7)])), (13, (.rows true 30 9 (y13_8.map e_api_Step)))]⟩ ∧ watchbilllaw12_exact.l0 k a1 m17 y2_0_2 y2_1_3 y2_2_4 y2_3_5 y2_4_6 y2_5_7 y13_8 x6_1 = some r) k ⟨a0.Kind, a0.Name.Space, a0.Name.Local, a0.Attrs, a0.Kids, a0.Text, ([(T_api_Step.mk 1 false (T_api_Name.mk a0.Name.Space a0.Name.Local) 1 false (T_api_Name.mk ([] : Str) ([] : Str)) ([] : Str))] : List T_api_Step), 0, rfl, H⟩ ?_
  rintro m17 σ ⟨y2_0_2, y2_1_3, y2_2_4, y2_3_5, y2_4_6, y2_5_7, y13_8, x6_1, rfl, H⟩
  cases m17 with
  | zero => exact absurd H (by simp [watchbilllaw12_exact.l0])
  | succ m17 =>
    unfold watchbilllaw12_exact.l0 at H
    refine Ok.seq ?_
    refine Ok.seq ?_
    refine Ok.region (σ' := ⟨[(1, (L 1 (eI .i64) a1)), (2, (.bref 2 0)), (5, (.sref 13)), (6, (.v (.int .i64 x6_1))), (17, (.v (.bool (decide (x6_1 < (a1.length : Int))))))], [(2, (.box true [(.v (.int .i64 y2_0_2)), (S y2_1_3), (S y2_2_4), (L 3 e_api_Attr y2_3_5), (L 6 e_api_Node y2_4_6), (S y2_5_7)])), (13, (.rows true 30 9 (y13_8.map e_api_Step)))]⟩) ?_ ?_
    · refine OpsOk.cons rfl (.v (VOk.mv (d := (.v (.int .i64 x6_1))) rfl rfl) rfl) ?_
      refine OpsOk.cons rfl (.v (VOk.mv (d := (L 1 (eI .i64) a1)) rfl rfl) rfl) ?_
      refine OpsOk.cons rfl (.v (VOk.lenL (e := (eI .i64)) (xs := a1) rfl Try.underlying39 rfl) rfl) ?_
      refine OpsOk.cons rfl (.v (VOk.arith (op := .lss) (k := .i64) (a := x6_1) (b := (a1.length : Int)) rfl rfl rfl rfl) rfl) ?_
      exact .done (.mk ⟨.same _, .same _, .same _, .same _, .same _, trivial⟩ ⟨.same _, .same _, trivial⟩)
    refine Ok.test (b := (decide (x6_1 < (a1.length : Int)))) rfl (fun hb59 => ?_) (fun hb59 => ?_)
    · replace H := ifT H hb59
      refine Ok.le (σ' := ⟨[(1, (L 1 (eI .i64) a1)), (2, (.bref 2 0)), (5, (.sref 13)), (6, (.v (.int .i64 x6_1)))], [(2, (.box true [(.v (.int .i64 y2_0_2)), (S y2_1_3), (S y2_2_4), (L 3 e_api_Attr y2_3_5), (L 6 e_api_Node y2_4_6), (S y2_5_7)])), (13, (.rows true 30 9 (y13_8.map e_api_Step)))]⟩) (.mk ⟨.same _, .same _, .same _, .same _, trivial⟩ ⟨.same _, .same _, trivial⟩) ?_
      refine Ok.skip ?_
      refine Ok.seq ?_
      refine Ok.block ?_
      refine Ok.seq ?_
      refine Ok.region (σ' := ⟨[(1, (L 1 (eI .i64) a1)), (2, (.bref 2 0)), (5, (.sref 13)), (6, (.v (.int .i64 x6_1))), (7, (.v (.int .i64 0)))], [(2, (.box true [(.v (.int .i64 y2_0_2)), (S y2_1_3), (S y2_2_4), (L 3 e_api_Attr y2_3_5), (L 6 e_api_Node y2_4_6), (S y2_5_7)])), (13, (.rows true 30 9 (y13_8.map e_api_Step)))]⟩) ?_ ?_
      · refine OpsOk.cons rfl (.v (VOk.asg (d := (.v (.int .i64 0))) rfl rfl) rfl) ?_
        exact .done (.mk ⟨.same _, .same _, .same _, .same _, .same _, trivial⟩ ⟨.same _, .same _, trivial⟩)
      refine Ok.seq ?_
      obtain ⟨c18, H⟩ := assertE H
      obtain ⟨c19, H⟩ := assertE H
      refine Ok.le (σ' := ⟨[(1, (L 1 (eI .i64) a1)), (2, (.bref 2 0)), (5, (.sref 13)), (6, (.v (.int .i64 x6_1))), (7, (.v (.int .i64 0)))], [(2, (.box true [(.v (.int .i64 y2_0_2)), (S y2_1_3), (S y2_2_4), (L 3 e_api_Attr y2_3_5), (L 6 e_api_Node y2_4_6), (S y2_5_7)])), (13, (.rows true 30 9 (y13_8.map e_api_Step)))]⟩) (.mk ⟨.same _, .same _, .same _, .same _, .same _, trivial⟩ ⟨.same _, .same _, trivial⟩) ?_
      refine Ok.drawE2 (σ' := ⟨[(1, (L 1 (eI .i64) a1)), (2, (.bref 2 0)), (5, (.sref 13)), (6, (.v (.int .i64 x6_1))), (7, (.v (.int .i64 0))), (8, (.bref 8 0))], [(2, (.box true [(.v (.int .i64 y2_0_2)), (S y2_1_3), (S y2_2_4), (L 3 e_api_Attr y2_3_5), (L 6 e_api_Node y2_4_6), (S y2_5_7)])), (8, (.box true [(.v (.int .i64 ((rd y2_4_6 (rd a1 x6_1)).Kind))), (S ((rd y2_4_6 (rd a1 x6_1)).Name.Space)), (S ((rd y2_4_6 (rd a1 x6_1)).Name.Local)), (L 3 e_api_Attr ((rd y2_4_6 (rd a1 x6_1)).Attrs)), (L 6 e_api_Node ((rd y2_4_6 (rd a1 x6_1)).Kids)), (S ((rd y2_4_6 (rd a1 x6_1)).Text))])), (13, (.rows true 30 9 (y13_8.map e_api_Step)))]⟩) [⟨true, [(2, (.bref 2 0))], [(2, (.box true [(.v (.int .i64 y2_0_2)), (S y2_1_3), (S y2_2_4), (L 3 e_api_Attr y2_3_5), (L 6 e_api_Node y2_4_6), (S y2_5_7)]))], (.bref 2 4), none, false⟩, ⟨true, [(20, (.bref 2 4))], [(2, (.box true [(.v (.int .i64 y2_0_2)), (S y2_1_3), (S y2_2_4), (L 3 e_api_Attr y2_3_5), (L 6 e_api_Node y2_4_6), (S y2_5_7)]))], (L 6 e_api_Node y2_4_6), none, false⟩, ⟨true, [(1, (L 1 (eI .i64) a1))], [], (L 1 (eI .i64) a1), none, false⟩, ⟨true, [(6, (.v (.int .i64 x6_1)))], [], (.v (.int .i64 x6_1)), none, false⟩, ⟨true, [(22, (L 1 (eI .i64) a1)), (23, (.v (.int .i64 x6_1)))], [], (.fp ((eI .i64) (rd a1 x6_1)) 0), none, false⟩, ⟨true, [(24, (.fp ((eI .i64) (rd a1 x6_1)) 0))], [], (.v (.int .i64 (rd a1 x6_1))), none, false⟩, ⟨true, [(21, (L 6 e_api_Node y2_4_6)), (25, (.v (.int .i64 (rd a1 x6_1))))], [], (.fp (e_api_Node (rd y2_4_6 (rd a1 x6_1))) 0), none, false⟩, ⟨true, [(26, (.fp (e_api_Node (rd y2_4_6 (rd a1 x6_1))) 0))], [], (.agg (e_api_Node (rd y2_4_6 (rd a1 x6_1)))), none, false⟩, ⟨true, [], [], (.bref 8 0), (some (8, (.box true [(.v (.int .i64 0)), (S ([] : Str)), (S ([] : Str)), (L 3 e_api_Attr ([] : List T_api_Attr)), (L 6 e_api_Node ([] : List T_api_Node)), (S ([] : Str))]))), true⟩, ⟨true, [(8, (.bref 8 0)), (27, (.agg [(.v (.int .i64 ((rd y2_4_6 (rd a1 x6_1)).Kind))), (S ((rd y2_4_6 (rd a1 x6_1)).Name.Space)), (S ((rd y2_4_6 (rd a1 x6_1)).Name.Local)), (L 3 e_api_Attr ((rd y2_4_6 (rd a1 x6_1)).Attrs)), (L 6 e_api_Node ((rd y2_4_6 (rd a1 x6_1)).Kids)), (S ((rd y2_4_6 (rd a1 x6_1)).Text))]))], [(8, (.box true [(.v (.int .i64 0)), (S ([] : Str)), (S ([] : Str)), (L 3 e_api_Attr ([] : List T_api_Attr)), (L 6 e_api_Node ([] : List T_api_Node)), (S ([] : Str))]))], .junk, (some (8, (.box true [(.v (.int .i64 ((rd y2_4_6 (rd a1 x6_1)).Kind))), (S ((rd y2_4_6 (rd a1 x6_1)).Name.Space)), (S ((rd y2_4_6 (rd a1 x6_1)).Name.Local)), (L 3 e_api_Attr ((rd y2_4_6 (rd a1 x6_1)).Attrs)), (L 6 e_api_Node ((rd y2_4_6 (rd a1 x6_1)).Kids)), (S ((rd y2_4_6 (rd a1 x6_1)).Text))]))), false⟩] [[], [0], [], [], [2, 3], [4], [1, 5], [6], [], [7, 8]] mixed (by kernel_rfl) ?_ ?_
      · refine TxtE2.cons ⟨.same _, trivial⟩ ⟨rfl, trivial⟩ (It2.val rfl rfl (fun T hT => (VOk.g (VOk.to (VOk.fieldB rfl Try.underlying27 rfl sz25 rfl hT.1) rfl)))) ?_
        refine TxtE2.cons ⟨.same _, trivial⟩ ⟨rfl, trivial⟩ (It2.val rfl rfl (fun T hT => (VOk.g (VOk.loadB (d := (L 6 e_api_Node y2_4_6)) rfl Try.underlying25 rfl rfl hT.1 rfl)))) ?_
        refine TxtE2.cons ⟨.same _, trivial⟩ trivial (It2.val rfl rfl (fun T hT => (VOk.g (VOk.mv (d := (L 1 (eI .i64) a1)) rfl rfl)))) ?_
        refine TxtE2.cons ⟨.same _, trivial⟩ trivial (It2.val rfl rfl (fun T hT => (VOk.g (VOk.mv (d := (.v (.int .i64 x6_1))) rfl rfl)))) ?_
        refine TxtE2.cons ⟨.same _, .same _, trivial⟩ trivial (It2.val rfl rfl (fun T hT => (VOk.g (VOk.indexL (sz := 1) (e := (eI .i64)) (xs := a1) (i := x6_1) rfl Try.underlying39 sz3 rfl rfl c18)))) ?_
        refine TxtE2.cons ⟨.same _, trivial⟩ trivial (It2.val rfl rfl (fun T hT => (VOk.g (VOk.loadFp (d := (.v (.int .i64 (rd a1 x6_1)))) rfl Try.underlying3 rfl rfl rfl)))) ?_
        refine TxtE2.cons ⟨.same _, .same _, trivial⟩ trivial (It2.val rfl rfl (fun T hT => (VOk.g (VOk.indexL (sz := 6) (e := e_api_Node) (xs := y2_4_6) (i := (rd a1 x6_1)) rfl Try.underlying25 sz27 rfl rfl c19)))) ?_
        refine TxtE2.cons ⟨.same _, trivial⟩ trivial (It2.val rfl rfl (fun T hT => (VOk.g (VOk.to (d' := (.agg (e_api_Node (rd y2_4_6 (rd a1 x6_1))))) (.loadFpAgg rfl Try.underlying27 rfl sz27 rfl rfl) rfl)))) ?_
        refine TxtE2.cons trivial trivial (It2.alloc 8 [none, none, none, some 3, some 6, none] rfl rfl zo27 rfl rfl) ?_
        refine TxtE2.cons ⟨.same _, DLe.of_eq (congrArg D.agg (e_api_Node_c _).symm), trivial⟩ ⟨rfl, trivial⟩ (It2.store rfl rfl sz27 rfl rfl rfl rfl rfl rfl rfl) ?_
        exact .done (.mk ⟨.same _, .same _, .same _, .same _, .same _, .same _, trivial⟩ ⟨.same _, .same _, .same _, trivial⟩)
      refine Ok.seq ?_
      refine Ok.seq ?_
      refine Ok.region (σ' := ⟨[(1, (L 1 (eI .i64) a1)), (2, (.bref 2 0)), (5, (.sref 13)), (6, (.v (.int .i64 x6_1))), (7, (.v (.int .i64 0))), (8, (.bref 8 0)), (9, (.v (.int .i64 0)))], [(2, (.box true [(.v (.int .i64 y2_0_2)), (S y2_1_3), (S y2_2_4), (L 3 e_api_Attr y2_3_5), (L 6 e_api_Node y2_4_6), (S y2_5_7)])), (8, (.box true [(.v (.int .i64 ((rd y2_4_6 (rd a1 x6_1)).Kind))), (S ((rd y2_4_6 (rd a1 x6_1)).Name.Space)), (S ((rd y2_4_6 (rd a1 x6_1)).Name.Local)), (L 3 e_api_Attr ((rd y2_4_6 (rd a1 x6_1)).Attrs)), (L 6 e_api_Node ((rd y2_4_6 (rd a1 x6_1)).Kids)), (S ((rd y2_4_6 (rd a1 x6_1)).Text))])), (13, (.rows true 30 9 (y13_8.map e_api_Step)))]⟩) ?_ ?_
      · refine OpsOk.cons rfl (.v (VOk.asg (d := (.v (.int .i64 0))) rfl rfl) rfl) ?_
        exact .done (.mk ⟨.same _, .same _, .same _, .same _, .same _, .same _, .same _, trivial⟩ ⟨.same _, .same _, .same _, trivial⟩)
      refine Ok.block ?_
      refine Ok.le (σ' := ⟨[(1, (L 1 (eI .i64) a1)), (2, (.bref 2 0)), (5, (.sref 13)), (6, (.v (.int .i64 x6_1))), (7, (.v (.int .i64 0))), (8, (.bref 8 0)), (9, (.v (.int .i64 0)))], [(2, (.box true [(.v (.int .i64 y2_0_2)), (S y2_1_3), (S y2_2_4), (L 3 e_api_Attr y2_3_5), (L 6 e_api_Node y2_4_6), (S y2_5_7)])), (8, (.box true [(.v (.int .i64 ((rd y2_4_6 (rd a1 x6_1)).Kind))), (S ((rd y2_4_6 (rd a1 x6_1)).Name.Space)), (S ((rd y2_4_6 (rd a1 x6_1)).Name.Local)), (L 3 e_api_Attr ((rd y2_4_6 (rd a1 x6_1)).Attrs)), (L 6 e_api_Node ((rd y2_4_6 (rd a1 x6_1)).Kids)), (S ((rd y2_4_6 (rd a1 x6_1)).Text))])), (13, (.rows true 30 9 (y13_8.map e_api_Step)))]⟩) (.mk ⟨.same _, .same _, .same _, .same _, .same _, .same _, .same _, trivial⟩ ⟨.same _, .same _, .same _, trivial⟩) ?_
      refine Ok.loop (fun m50 σ => ∃ (y2_0_22 : Int) (y2_1_23 : Str) (y2_2_24 : Str) (y2_3_25 : List T_api_Attr) (y2_4_26 : List T_api_Node) (y2_5_27 : Str) (y8_0_28 : Int) (y8_1_29 : Str) (y8_2_30 : Str) (y8_3_31 : List T_api_Attr) (y8_4_32 : List T_api_Node) (y8_5_33 : Str) (y13_34 : List T_api_Step) (x7_20 : Int) (x9_21 : Int), σ = ⟨[(1, (L 1 (eI .i64) a1)), (2, (.bref 2 0)), (5, (.sref 13)), (6, (.v (.int .i64 x6_1))), (7, (.v (.int .i64 x7_20))), (8, (.bref 8 0)), (9, (.v (.int .i64 x9_21)))], [(2, (.box true [(.v (.int .i64 y2_0_22)), (S y2_1_23), (S y2_2_24), (L 3 e_api_Attr y2_3_25), (L 6 e_api_Node y2_4_26), (S y2_5_27)])), (8, (.box true [(.v (.int .i64 y8_0_28)), (S y8_1_29), (S y8_2_30), (L 3 e_api_Attr y8_3_31), (L 6 e_api_Node y8_4_32), (S y8_5_33)])), (13, (.rows true 30 9 (y13_34.map e_api_Step)))]⟩ ∧ watchbilllaw12_exact.l1 k (watchbilllaw12_exact.l0 k a1 m17) a1 x6_1 m50 y2_0_22 y2_1_23 y2_2_24 y2_3_25 y2_4_26 y2_5_27 y8_0_28 y8_1_29 y8_2_30 y8_3_31 y8_4_32 y8_5_33 y13_34 x7_20 x9_21 = some r) k ⟨y2_0_2, y2_1_3, y2_2_4, y2_3_5, y2_4_6, y2_5_7, ((rd y2_4_6 (rd a1 x6_1)).Kind), ((rd y2_4_6 (rd a1 x6_1)).Name.Space), ((rd y2_4_6 (rd a1 x6_1)).Name.Local), ((rd y2_4_6 (rd a1 x6_1)).Attrs), ((rd y2_4_6 (rd a1 x6_1)).Kids), ((rd y2_4_6 (rd a1 x6_1)).Text), y13_8, 0, 0, rfl, H⟩ ?_
      rintro m50 σ ⟨y2_0_22, y2_1_23, y2_2_24, y2_3_25, y2_4_26, y2_5_27, y8_0_28, y8_1_29, y8_2_30, y8_3_31, y8_4_32, y8_5_33, y13_34, x7_20, x9_21, rfl, H⟩
      cases m50 with
      | zero => exact absurd H (by simp [watchbilllaw12_exact.l1])
      | succ m50 =>
        unfold watchbilllaw12_exact.l1 at H
        refine Ok.seq ?_
        refine Ok.seq ?_
        obtain ⟨c51, H⟩ := assertE H
        refine Ok.region (σ' := ⟨[(1, (L 1 (eI .i64) a1)), (2, (.bref 2 0)), (5, (.sref 13)), (6, (.v (.int .i64 x6_1))), (7, (.v (.int .i64 x7_20))), (8, (.bref 8 0)), (9, (.v (.int .i64 x9_21))), (33, (.v (.bool (decide (x9_21 ≤ (rd a1 x6_1))))))], [(2, (.box true [(.v (.int .i64 y2_0_22)), (S y2_1_23), (S y2_2_24), (L 3 e_api_Attr y2_3_25), (L 6 e_api_Node y2_4_26), (S y2_5_27)])), (8, (.box true [(.v (.int .i64 y8_0_28)), (S y8_1_29), (S y8_2_30), (L 3 e_api_Attr y8_3_31), (L 6 e_api_Node y8_4_32), (S y8_5_33)])), (13, (.rows true 30 9 (y13_34.map e_api_Step)))]⟩) ?_ ?_
        · refine OpsOk.cons rfl (.v (VOk.mv (d := (.v (.int .i64 x9_21))) rfl rfl) rfl) ?_
          refine OpsOk.cons rfl (.v (VOk.mv (d := (L 1 (eI .i64) a1)) rfl rfl) rfl) ?_
          refine OpsOk.cons rfl (.v (VOk.mv (d := (.v (.int .i64 x6_1))) rfl rfl) rfl) ?_
          refine OpsOk.cons rfl (.v (VOk.indexL (sz := 1) (e := (eI .i64)) (xs := a1) (i := x6_1) rfl Try.underlying39 sz3 rfl rfl c51) rfl) ?_
          refine OpsOk.cons rfl (.v (VOk.loadFp (d := (.v (.int .i64 (rd a1 x6_1)))) rfl Try.underlying3 rfl rfl rfl) rfl) ?_
          refine OpsOk.cons rfl (.v (VOk.arith (op := .leq) (k := .i64) (a := x9_21) (b := (rd a1 x6_1)) rfl rfl rfl rfl) rfl) ?_
          exact .done (.mk ⟨.same _, .same _, .same _, .same _, .same _, .same _, .same _, .same _, trivial⟩ ⟨.same _, .same _, .same _, trivial⟩)
        refine Ok.test (b := (decide (x9_21 ≤ (rd a1 x6_1)))) rfl (fun hb58 => ?_) (fun hb58 => ?_)
        · replace H := ifT H hb58
          refine Ok.le (σ' := ⟨[(1, (L 1 (eI .i64) a1)), (2, (.bref 2 0)), (5, (.sref 13)), (6, (.v (.int .i64 x6_1))), (7, (.v (.int .i64 x7_20))), (8, (.bref 8 0)), (9, (.v (.int .i64 x9_21)))], [(2, (.box true [(.v (.int .i64 y2_0_22)), (S y2_1_23), (S y2_2_24), (L 3 e_api_Attr y2_3_25), (L 6 e_api_Node y2_4_26), (S y2_5_27)])), (8, (.box true [(.v (.int .i64 y8_0_28)), (S y8_1_29), (S y8_2_30), (L 3 e_api_Attr y8_3_31), (L 6 e_api_Node y8_4_32), (S y8_5_33)])), (13, (.rows true 30 9 (y13_34.map e_api_Step)))]⟩) (.mk ⟨.same _, .same _, .same _, .same _, .same _, .same _, .same _, trivial⟩ ⟨.same _, .same _, .same _, trivial⟩) ?_
          refine Ok.skip ?_
          refine Ok.seq ?_
          refine Ok.block ?_
          refine Ok.seq ?_
          obtain ⟨c52, H⟩ := assertE H
          obtain ⟨c54, H⟩ := assertE H
          refine Ok.drawE (σ' := ⟨[(1, (L 1 (eI .i64) a1)), (2, (.bref 2 0)), (5, (.sref 13)), (6, (.v (.int .i64 x6_1))), (7, (.v (.int .i64 x7_20))), (8, (.bref 8 0)), (9, (.v (.int .i64 x9_21))), (53, (.v (.bool ((((rd y2_4_26 x9_21).Kind) == 1) && (((rd y2_4_26 x9_21).Name).Space == (T_api_Name.mk y8_1_29 y8_2_30).Space && (((rd y2_4_26 x9_21).Name).Local == (T_api_Name.mk y8_1_29 y8_2_30).Local && true))))))], [(2, (.box true [(.v (.int .i64 y2_0_22)), (S y2_1_23), (S y2_2_24), (L 3 e_api_Attr y2_3_25), (L 6 e_api_Node y2_4_26), (S y2_5_27)])), (8, (.box true [(.v (.int .i64 y8_0_28)), (S y8_1_29), (S y8_2_30), (L 3 e_api_Attr y8_3_31), (L 6 e_api_Node y8_4_32), (S y8_5_33)])), (13, (.rows true 30 9 (y13_34.map e_api_Step)))]⟩) [⟨true, [(2, (.bref 2 0))], (.bref 2 4)⟩, ⟨true, [(36, (.bref 2 4))], (L 6 e_api_Node y2_4_26)⟩, ⟨true, [(9, (.v (.int .i64 x9_21)))], (.v (.int .i64 x9_21))⟩, ⟨true, [(37, (L 6 e_api_Node y2_4_26)), (38, (.v (.int .i64 x9_21)))], (.fp (e_api_Node (rd y2_4_26 x9_21)) 0)⟩, ⟨true, [(39, (.fp (e_api_Node (rd y2_4_26 x9_21)) 0))], (.fp (e_api_Node (rd y2_4_26 x9_21)) 0)⟩, ⟨true, [(40, (.fp (e_api_Node (rd y2_4_26 x9_21)) 0))], (.v (.int .i64 ((rd y2_4_26 x9_21).Kind)))⟩, ⟨true, [(41, (.v (.int .i64 ((rd y2_4_26 x9_21).Kind))))], (.v (.bool (((rd y2_4_26 x9_21).Kind) == 1)))⟩, ⟨true, [(42, (.v (.bool (((rd y2_4_26 x9_21).Kind) == 1))))], (.v (.bool (((rd y2_4_26 x9_21).Kind) == 1)))⟩, It.I ((((rd y2_4_26 x9_21).Kind) == 1) == true) [(2, (.bref 2 0)), (43, (.v (.bool (((rd y2_4_26 x9_21).Kind) == 1))))] (.bref 2 4), It.I ((((rd y2_4_26 x9_21).Kind) == 1) == true) [(44, (bif ((((rd y2_4_26 x9_21).Kind) == 1) == true) then (.bref 2 4) else .v undef)), (43, (.v (.bool (((rd y2_4_26 x9_21).Kind) == 1))))] (L 6 e_api_Node y2_4_26), It.I ((((rd y2_4_26 x9_21).Kind) == 1) == true) [(9, (.v (.int .i64 x9_21))), (43, (.v (.bool (((rd y2_4_26 x9_21).Kind) == 1))))] (.v (.int .i64 x9_21)), It.I ((((rd y2_4_26 x9_21).Kind) == 1) == true) [(45, (bif ((((rd y2_4_26 x9_21).Kind) == 1) == true) then (L 6 e_api_Node y2_4_26) else .v undef)), (46, (bif ((((rd y2_4_26 x9_21).Kind) == 1) == true) then (.v (.int .i64 x9_21)) else .v undef)), (43, (.v (.bool (((rd y2_4_26 x9_21).Kind) == 1))))] (.fp (e_api_Node (rd y2_4_26 x9_21)) 0), It.I ((((rd y2_4_26 x9_21).Kind) == 1) == true) [(47, (bif ((((rd y2_4_26 x9_21).Kind) == 1) == true) then (.fp (e_api_Node (rd y2_4_26 x9_21)) 0) else .v undef)), (43, (.v (.bool (((rd y2_4_26 x9_21).Kind) == 1))))] (.fp (e_api_Node (rd y2_4_26 x9_21)) 1), It.I ((((rd y2_4_26 x9_21).Kind) == 1) == true) [(48, (bif ((((rd y2_4_26 x9_21).Kind) == 1) == true) then (.fp (e_api_Node (rd y2_4_26 x9_21)) 1) else .v undef)), (43, (.v (.bool (((rd y2_4_26 x9_21).Kind) == 1))))] (.agg (e_api_Name ((rd y2_4_26 x9_21).Name))), It.I ((((rd y2_4_26 x9_21).Kind) == 1) == true) [(8, (.bref 8 0)), (43, (.v (.bool (((rd y2_4_26 x9_21).Kind) == 1))))] (.bref 8 1), It.I ((((rd y2_4_26 x9_21).Kind) == 1) == true) [(50, (bif ((((rd y2_4_26 x9_21).Kind) == 1) == true) then (.bref 8 1) else .v undef)), (43, (.v (.bool (((rd y2_4_26 x9_21).Kind) == 1))))] (.agg (e_api_Name (T_api_Name.mk y8_1_29 y8_2_30))), It.I ((((rd y2_4_26 x9_21).Kind) == 1) == true) [(49, (bif ((((rd y2_4_26 x9_21).Kind) == 1) == true) then (.agg (e_api_Name ((rd y2_4_26 x9_21).Name))) else .v undef)), (51, (bif ((((rd y2_4_26 x9_21).Kind) == 1) == true) then (.agg (e_api_Name (T_api_Name.mk y8_1_29 y8_2_30))) else .v undef)), (43, (.v (.bool (((rd y2_4_26 x9_21).Kind) == 1))))] (.v (.bool (((rd y2_4_26 x9_21).Name).Space == (T_api_Name.mk y8_1_29 y8_2_30).Space && (((rd y2_4_26 x9_21).Name).Local == (T_api_Name.mk y8_1_29 y8_2_30).Local && true)))), ⟨true, [(43, (.v (.bool (((rd y2_4_26 x9_21).Kind) == 1)))), (52, (bif ((((rd y2_4_26 x9_21).Kind) == 1) == true) then (.v (.bool (((rd y2_4_26 x9_21).Name).Space == (T_api_Name.mk y8_1_29 y8_2_30).Space && (((rd y2_4_26 x9_21).Name).Local == (T_api_Name.mk y8_1_29 y8_2_30).Local && true)))) else .v undef))], (.v (.bool ((((rd y2_4_26 x9_21).Kind) == 1) && (((rd y2_4_26 x9_21).Name).Space == (T_api_Name.mk y8_1_29 y8_2_30).Space && (((rd y2_4_26 x9_21).Name).Local == (T_api_Name.mk y8_1_29 y8_2_30).Local && true)))))⟩] [[], [0], [], [1, 2], [3], [4], [5], [6], [7], [7, 8], [7], [7, 9, 10], [7, 11], [7, 12], [7], [7, 14], [7, 13, 15], [7, 16]] mixed (by kernel_rfl) ?_ ?_
          · refine TxtE.cons rfl ⟨.same _, trivial⟩ rfl (VOk.g (VOk.to (VOk.fieldB rfl Try.underlying27 rfl sz25 rfl rfl) rfl)) ?_
            refine TxtE.cons rfl ⟨.same _, trivial⟩ rfl (VOk.g (VOk.loadB (d := (L 6 e_api_Node y2_4_26)) rfl Try.underlying25 rfl rfl rfl rfl)) ?_
            refine TxtE.cons rfl ⟨.same _, trivial⟩ rfl (VOk.g (VOk.mv (d := (.v (.int .i64 x9_21))) rfl rfl)) ?_
            refine TxtE.cons rfl ⟨.same _, .same _, trivial⟩ rfl (VOk.g (VOk.indexL (sz := 6) (e := e_api_Node) (xs := y2_4_26) (i := x9_21) rfl Try.underlying25 sz27 rfl rfl c52)) ?_
            refine TxtE.cons rfl ⟨.same _, trivial⟩ rfl (VOk.g (VOk.to (VOk.fieldFp rfl Try.underlying27 rfl sz3 rfl) rfl)) ?_
            refine TxtE.cons rfl ⟨.same _, trivial⟩ rfl (VOk.g (VOk.loadFp (d := (.v (.int .i64 ((rd y2_4_26 x9_21).Kind)))) rfl Try.underlying3 rfl rfl rfl)) ?_
            refine TxtE.cons rfl ⟨.same _, trivial⟩ rfl (VOk.g (VOk.arith (op := .eql) (k := .i64) (a := (rd y2_4_26 x9_21).Kind) (b := 1) rfl rfl rfl rfl)) ?_
            refine TxtE.cons rfl ⟨.same _, trivial⟩ rfl (VOk.g (VOk.mv (d := (.v (.bool (((rd y2_4_26 x9_21).Kind) == 1)))) rfl rfl)) ?_
            refine TxtE.consI rfl ⟨.same _, .same _, trivial⟩ rfl rfl (.one rfl) (fun hw53 => (VOk.g (VOk.to (VOk.fieldB rfl Try.underlying27 rfl sz25 rfl rfl) rfl))) ?_
            refine TxtE.consI rfl ⟨.same _, .same _, trivial⟩ rfl rfl (.one rfl) (fun hw53 => (GOk.fr (fr' := [(44, (.bref 2 4))]) ⟨DLe.of_eq (cT hw53).symm, trivial⟩ (VOk.g (VOk.loadB (d := (L 6 e_api_Node y2_4_26)) rfl Try.underlying25 rfl rfl rfl rfl)))) ?_
            refine TxtE.consI rfl ⟨.same _, .same _, trivial⟩ rfl rfl (.one rfl) (fun hw53 => (VOk.g (VOk.mv (d := (.v (.int .i64 x9_21))) rfl rfl))) ?_
            refine TxtE.consI rfl ⟨.same _, .same _, .same _, trivial⟩ rfl rfl (.one rfl) (fun hw53 => (GOk.fr (fr' := [(45, (L 6 e_api_Node y2_4_26)), (46, (.v (.int .i64 x9_21)))]) ⟨DLe.of_eq (cT hw53).symm, DLe.of_eq (cT hw53).symm, trivial⟩ (VOk.g (VOk.indexL (sz := 6) (e := e_api_Node) (xs := y2_4_26) (i := x9_21) rfl Try.underlying25 sz27 rfl rfl (c54 hw53))))) ?_
            refine TxtE.consI rfl ⟨.same _, .same _, trivial⟩ rfl rfl (.one rfl) (fun hw53 => (GOk.fr (fr' := [(47, (.fp (e_api_Node (rd y2_4_26 x9_21)) 0))]) ⟨DLe.of_eq (cT hw53).symm, trivial⟩ (VOk.g (VOk.to (VOk.fieldFp rfl Try.underlying27 rfl sz23 rfl) rfl)))) ?_
            refine TxtE.consI rfl ⟨.same _, .same _, trivial⟩ rfl rfl (.one rfl) (fun hw53 => (GOk.fr (fr' := [(48, (.fp (e_api_Node (rd y2_4_26 x9_21)) 1))]) ⟨DLe.of_eq (cT hw53).symm, trivial⟩ (VOk.g (VOk.to (d' := (.agg (e_api_Name ((rd y2_4_26 x9_21).Name)))) (.loadFpAgg rfl Try.underlying23 rfl sz23 rfl rfl) rfl)))) ?_
            refine TxtE.consI rfl ⟨.same _, .same _, trivial⟩ rfl rfl (.one rfl) (fun hw53 => (VOk.g (VOk.to (VOk.fieldB rfl Try.underlying27 rfl sz23 rfl rfl) rfl))) ?_
            refine TxtE.consI rfl ⟨.same _, .same _, trivial⟩ rfl rfl (.one rfl) (fun hw53 => (GOk.fr (fr' := [(50, (.bref 8 1))]) ⟨DLe.of_eq (cT hw53).symm, trivial⟩ (VOk.g (VOk.to (d' := (.agg (e_api_Name (T_api_Name.mk y8_1_29 y8_2_30)))) (.loadBAgg rfl Try.underlying23 rfl sz23 rfl rfl rfl) rfl)))) ?_
            refine TxtE.consI rfl ⟨.same _, .same _, .same _, trivial⟩ rfl rfl (.one rfl) (fun hw53 => (GOk.fr (fr' := [(49, (.agg (e_api_Name ((rd y2_4_26 x9_21).Name)))), (51, (.agg (e_api_Name (T_api_Name.mk y8_1_29 y8_2_30))))]) ⟨DLe.of_eq (cT hw53).symm, DLe.of_eq (cT hw53).symm, trivial⟩ (VOk.g (VOk.eqS' (op := .eql) (d := (.v (.bool (((rd y2_4_26 x9_21).Name).Space == (T_api_Name.mk y8_1_29 y8_2_30).Space && (((rd y2_4_26 x9_21).Name).Local == (T_api_Name.mk y8_1_29 y8_2_30).Local && true))))) rfl (.inl rfl) (eqt23 9998) ag23 eg23 rfl rfl rfl rfl)))) ?_
            refine TxtE.cons rfl ⟨.same _, .same _, trivial⟩ rfl (VOk.g (VOk.to (VOk.pickI (b := (((rd y2_4_26 x9_21).Kind) == 1)) (p := (((rd y2_4_26 x9_21).Name).Space == (T_api_Name.mk y8_1_29 y8_2_30).Space && (((rd y2_4_26 x9_21).Name).Local == (T_api_Name.mk y8_1_29 y8_2_30).Local && true))) (q := false) rfl rfl (fun hp55 => (cT (t_beq hp55))) (fun hp55 => rfl)) (pickAnd (((rd y2_4_26 x9_21).Kind) == 1) (((rd y2_4_26 x9_21).Name).Space == (T_api_Name.mk y8_1_29 y8_2_30).Space && (((rd y2_4_26 x9_21).Name).Local == (T_api_Name.mk y8_1_29 y8_2_30).Local && true))))) ?_
            exact .done (.mk ⟨.same _, .same _, .same _, .same _, .same _, .same _, .same _, .same _, trivial⟩ ⟨.same _, .same _, .same _, trivial⟩)
          refine Ok.test (b := ((((rd y2_4_26 x9_21).Kind) == 1) && (((rd y2_4_26 x9_21).Name).Space == (T_api_Name.mk y8_1_29 y8_2_30).Space && (((rd y2_4_26 x9_21).Name).Local == (T_api_Name.mk y8_1_29 y8_2_30).Local && true)))) rfl (fun hb56 => ?_) (fun hb56 => ?_)
          · replace H := ifT H hb56
            refine Ok.region (σ' := ⟨[(1, (L 1 (eI .i64) a1)), (2, (.bref 2 0)), (5, (.sref 13)), (6, (.v (.int .i64 x6_1))), (7, (.v (.int .i64 (IntKind.i64.wrap (x7_20 + 1))))), (8, (.bref 8 0)), (9, (.v (.int .i64 x9_21)))], [(2, (.box true [(.v (.int .i64 y2_0_22)), (S y2_1_23), (S y2_2_24), (L 3 e_api_Attr y2_3_25), (L 6 e_api_Node y2_4_26), (S y2_5_27)])), (8, (.box true [(.v (.int .i64 y8_0_28)), (S y8_1_29), (S y8_2_30), (L 3 e_api_Attr y8_3_31), (L 6 e_api_Node y8_4_32), (S y8_5_33)])), (13, (.rows true 30 9 (y13_34.map e_api_Step)))]⟩) ?_ ?_
            · refine OpsOk.cons rfl (.v (VOk.mv (d := (.v (.int .i64 x7_20))) rfl rfl) rfl) ?_
              refine OpsOk.cons rfl (.v (VOk.arith (op := .add) (k := .i64) (a := x7_20) (b := 1) rfl rfl rfl rfl) rfl) ?_
              refine OpsOk.cons rfl (.v (VOk.asg (d := (.v (.int .i64 (IntKind.i64.wrap (x7_20 + 1))))) rfl rfl) rfl) ?_
              exact .done (.mk ⟨.same _, .same _, .same _, .same _, .same _, .same _, .same _, trivial⟩ ⟨.same _, .same _, .same _, trivial⟩)
            refine Ok.region (σ' := ⟨[(1, (L 1 (eI .i64) a1)), (2, (.bref 2 0)), (5, (.sref 13)), (6, (.v (.int .i64 x6_1))), (7, (.v (.int .i64 (IntKind.i64.wrap (x7_20 + 1))))), (8, (.bref 8 0)), (9, (.v (.int .i64 (IntKind.i64.wrap (x9_21 + 1)))))], [(2, (.box true [(.v (.int .i64 y2_0_22)), (S y2_1_23), (S y2_2_24), (L 3 e_api_Attr y2_3_25), (L 6 e_api_Node y2_4_26), (S y2_5_27)])), (8, (.box true [(.v (.int .i64 y8_0_28)), (S y8_1_29), (S y8_2_30), (L 3 e_api_Attr y8_3_31), (L 6 e_api_Node y8_4_32), (S y8_5_33)])), (13, (.rows true 30 9 (y13_34.map e_api_Step)))]⟩) ?_ ?_
            · refine OpsOk.cons rfl (.v (VOk.mv (d := (.v (.int .i64 x9_21))) rfl rfl) rfl) ?_
              refine OpsOk.cons rfl (.v (VOk.arith (op := .add) (k := .i64) (a := x9_21) (b := 1) rfl rfl rfl rfl) rfl) ?_
              refine OpsOk.cons rfl (.v (VOk.asg (d := (.v (.int .i64 (IntKind.i64.wrap (x9_21 + 1))))) rfl rfl) rfl) ?_
              exact .done (.mk ⟨.same _, .same _, .same _, .same _, .same _, .same _, .same _, trivial⟩ ⟨.same _, .same _, .same _, trivial⟩)
            exact ⟨m50, Nat.lt_succ_self m50, y2_0_22, y2_1_23, y2_2_24, y2_3_25, y2_4_26, y2_5_27, y8_0_28, y8_1_29, y8_2_30, y8_3_31, y8_4_32, y8_5_33, y13_34, (IntKind.i64.wrap (x7_20 + 1)), (IntKind.i64.wrap (x9_21 + 1)), rfl, H⟩
          · replace H := ifF H hb56
            refine Ok.le (σ' := ⟨[(1, (L 1 (eI .i64) a1)), (2, (.bref 2 0)), (5, (.sref 13)), (6, (.v (.int .i64 x6_1))), (7, (.v (.int .i64 x7_20))), (8, (.bref 8 0)), (9, (.v (.int .i64 x9_21)))], [(2, (.box true [(.v (.int .i64 y2_0_22)), (S y2_1_23), (S y2_2_24), (L 3 e_api_Attr y2_3_25), (L 6 e_api_Node y2_4_26), (S y2_5_27)])), (8, (.box true [(.v (.int .i64 y8_0_28)), (S y8_1_29), (S y8_2_30), (L 3 e_api_Attr y8_3_31), (L 6 e_api_Node y8_4_32), (S y8_5_33)])), (13, (.rows true 30 9 (y13_34.map e_api_Step)))]⟩) (.mk ⟨.same _, .same _, .same _, .same _, .same _, .same _, .same _, trivial⟩ ⟨.same _, .same _, .same _, trivial⟩) ?_
            refine Ok.skip ?_
            refine Ok.region (σ' := ⟨[(1, (L 1 (eI .i64) a1)), (2, (.bref 2 0)), (5, (.sref 13)), (6, (.v (.int .i64 x6_1))), (7, (.v (.int .i64 x7_20))), (8, (.bref 8 0)), (9, (.v (.int .i64 (IntKind.i64.wrap (x9_21 + 1)))))], [(2, (.box true [(.v (.int .i64 y2_0_22)), (S y2_1_23), (S y2_2_24), (L 3 e_api_Attr y2_3_25), (L 6 e_api_Node y2_4_26), (S y2_5_27)])), (8, (.box true [(.v (.int .i64 y8_0_28)), (S y8_1_29), (S y8_2_30), (L 3 e_api_Attr y8_3_31), (L 6 e_api_Node y8_4_32), (S y8_5_33)])), (13, (.rows true 30 9 (y13_34.map e_api_Step)))]⟩) ?_ ?_
            · refine OpsOk.cons rfl (.v (VOk.mv (d := (.v (.int .i64 x9_21))) rfl rfl) rfl) ?_
              refine OpsOk.cons rfl (.v (VOk.arith (op := .add) (k := .i64) (a := x9_21) (b := 1) rfl rfl rfl rfl) rfl) ?_
              refine OpsOk.cons rfl (.v (VOk.asg (d := (.v (.int .i64 (IntKind.i64.wrap (x9_21 + 1))))) rfl rfl) rfl) ?_
              exact .done (.mk ⟨.same _, .same _, .same _, .same _, .same _, .same _, .same _, trivial⟩ ⟨.same _, .same _, .same _, trivial⟩)
            exact ⟨m50, Nat.lt_succ_self m50, y2_0_22, y2_1_23, y2_2_24, y2_3_25, y2_4_26, y2_5_27, y8_0_28, y8_1_29, y8_2_30, y8_3_31, y8_4_32, y8_5_33, y13_34, x7_20, (IntKind.i64.wrap (x9_21 + 1)), rfl, H⟩
        · replace H := ifF H hb58
          refine Ok.le (σ' := ⟨[(1, (L 1 (eI .i64) a1)), (2, (.bref 2 0)), (5, (.sref 13)), (6, (.v (.int .i64 x6_1))), (7, (.v (.int .i64 x7_20))), (8, (.bref 8 0))], [(2, (.box true [(.v (.int .i64 y2_0_22)), (S y2_1_23), (S y2_2_24), (L 3 e_api_Attr y2_3_25), (L 6 e_api_Node y2_4_26), (S y2_5_27)])), (8, (.box true [(.v (.int .i64 y8_0_28)), (S y8_1_29), (S y8_2_30), (L 3 e_api_Attr y8_3_31), (L 6 e_api_Node y8_4_32), (S y8_5_33)])), (13, (.rows true 30 9 (y13_34.map e_api_Step)))]⟩) (.mk ⟨.same _, .same _, .same _, .same _, .same _, .same _, trivial⟩ ⟨.same _, .same _, .same _, trivial⟩) ?_
          refine Ok.exit ?_
          refine Ok.seq ?_
          obtain ⟨c57, H⟩ := assertE H
          refine Ok.region (σ' := ⟨[(1, (L 1 (eI .i64) a1)), (2, (.bref 2 0)), (5, (.sref 13)), (6, (.v (.int .i64 x6_1))), (8, (.bref 8 0))], [(2, (.box true [(.v (.int .i64 y2_0_22)), (S y2_1_23), (S y2_2_24), (L 3 e_api_Attr y2_3_25), (L 6 e_api_Node y2_4_26), (S y2_5_27)])), (8, (.box true [(.v (.int .i64 y8_0_28)), (S y8_1_29), (S y8_2_30), (L 3 e_api_Attr y8_3_31), (L 6 e_api_Node y8_4_32), (S y8_5_33)])), (13, (.rows true 30 9 ((y13_34 ++ ([(T_api_Step.mk 1 false (T_api_Name.mk ((T_api_Name.mk y8_1_29 y8_2_30).Space) ((T_api_Name.mk y8_1_29 y8_2_30).Local)) x7_20 false (T_api_Name.mk ([] : Str) ([] : Str)) ([] : Str))] : List T_api_Step)).map e_api_Step)))]⟩) ?_ ?_
          · refine OpsOk.cons rfl (.v (VOk.mv (d := (.sref 13)) rfl rfl) rfl) ?_
            refine OpsOk.cons rfl (.v (VOk.to (VOk.fieldB rfl Try.underlying27 rfl sz23 rfl rfl) rfl) rfl) ?_
            refine OpsOk.cons rfl (.v (VOk.to (d' := (.agg (e_api_Name (T_api_Name.mk y8_1_29 y8_2_30)))) (.loadBAgg rfl Try.underlying23 rfl sz23 rfl rfl rfl) rfl) rfl) ?_
            refine OpsOk.cons rfl (.v (VOk.mv (d := (.v (.int .i64 x7_20))) rfl rfl) rfl) ?_
            refine OpsOk.cons rfl (.v (VOk.to (d' := (.agg (e_api_Step (T_api_Step.mk 1 false (T_api_Name.mk ((T_api_Name.mk y8_1_29 y8_2_30).Space) ((T_api_Name.mk y8_1_29 y8_2_30).Local)) x7_20 false (T_api_Name.mk ([] : Str) ([] : Str)) ([] : Str))))) (.build [none, none, none, none, none, none, none, none, none] [(0, 1), (1, 1), (2, 2), (4, 1), (5, 1), (6, 2), (8, 1)] rfl Try.underlying30 (fa30 Try.underlying30) zo30 rfl rfl) rfl) rfl) ?_
            refine OpsOk.cons rfl (.g (GOk.to (d' := (L 9 e_api_Step ([(T_api_Step.mk 1 false (T_api_Name.mk ((T_api_Name.mk y8_1_29 y8_2_30).Space) ((T_api_Name.mk y8_1_29 y8_2_30).Local)) x7_20 false (T_api_Name.mk ([] : Str) ([] : Str)) ([] : Str))] : List T_api_Step))) (GOk.lit rfl Try.underlying28 sz30 zs30 rfl rfl rfl rfl) rfl) rfl) ?_
            refine OpsOk.cons rfl (OpOk.appendL (e := e_api_Step) (xs := y13_34) (ys := ([(T_api_Step.mk 1 false (T_api_Name.mk ((T_api_Name.mk y8_1_29 y8_2_30).Space) ((T_api_Name.mk y8_1_29 y8_2_30).Local)) x7_20 false (T_api_Name.mk ([] : Str) ([] : Str)) ([] : Str))] : List T_api_Step)) rfl Try.underlying28 elt30 rfl rfl rfl c57 rfl) ?_
            refine OpsOk.cons rfl (.v (VOk.asg (d := (.sref 13)) rfl rfl) rfl) ?_
            exact .done (.mk ⟨.same _, .same _, .same _, .same _, .same _, trivial⟩ ⟨.same _, .same _, .same _, trivial⟩)
          refine Ok.region (σ' := ⟨[(1, (L 1 (eI .i64) a1)), (2, (.bref 2 0)), (5, (.sref 13)), (6, (.v (.int .i64 x6_1)))], [(2, (.box true [(.v (.int .i64 ((T_api_Node.mk y8_0_28 (T_api_Name.mk y8_1_29 y8_2_30) y8_3_31 y8_4_32 y8_5_33).Kind))), (S ((T_api_Node.mk y8_0_28 (T_api_Name.mk y8_1_29 y8_2_30) y8_3_31 y8_4_32 y8_5_33).Name.Space)), (S ((T_api_Node.mk y8_0_28 (T_api_Name.mk y8_1_29 y8_2_30) y8_3_31 y8_4_32 y8_5_33).Name.Local)), (L 3 e_api_Attr ((T_api_Node.mk y8_0_28 (T_api_Name.mk y8_1_29 y8_2_30) y8_3_31 y8_4_32 y8_5_33).Attrs)), (L 6 e_api_Node ((T_api_Node.mk y8_0_28 (T_api_Name.mk y8_1_29 y8_2_30) y8_3_31 y8_4_32 y8_5_33).Kids)), (S ((T_api_Node.mk y8_0_28 (T_api_Name.mk y8_1_29 y8_2_30) y8_3_31 y8_4_32 y8_5_33).Text))])), (13, (.rows true 30 9 ((y13_34 ++ ([(T_api_Step.mk 1 false (T_api_Name.mk ((T_api_Name.mk y8_1_29 y8_2_30).Space) ((T_api_Name.mk y8_1_29 y8_2_30).Local)) x7_20 false (T_api_Name.mk ([] : Str) ([] : Str)) ([] : Str))] : List T_api_Step)).map e_api_Step)))]⟩) ?_ ?_
          · refine OpsOk.cons rfl (.v (VOk.to (d' := (.agg (e_api_Node (T_api_Node.mk y8_0_28 (T_api_Name.mk y8_1_29 y8_2_30) y8_3_31 y8_4_32 y8_5_33)))) (.loadBAgg rfl Try.underlying27 rfl sz27 rfl rfl rfl) (congrArg D.agg (e_api_Node_c (T_api_Node.mk y8_0_28 (T_api_Name.mk y8_1_29 y8_2_30) y8_3_31 y8_4_32 y8_5_33)).symm)) rfl) ?_
            refine OpsOk.cut (σ := ⟨[(1, (L 1 (eI .i64) a1)), (2, (.bref 2 0)), (5, (.sref 13)), (6, (.v (.int .i64 x6_1))), (8, (.bref 8 0)), (63, (.agg [(.v (.int .i64 ((T_api_Node.mk y8_0_28 (T_api_Name.mk y8_1_29 y8_2_30) y8_3_31 y8_4_32 y8_5_33).Kind))), (S ((T_api_Node.mk y8_0_28 (T_api_Name.mk y8_1_29 y8_2_30) y8_3_31 y8_4_32 y8_5_33).Name.Space)), (S ((T_api_Node.mk y8_0_28 (T_api_Name.mk y8_1_29 y8_2_30) y8_3_31 y8_4_32 y8_5_33).Name.Local)), (L 3 e_api_Attr ((T_api_Node.mk y8_0_28 (T_api_Name.mk y8_1_29 y8_2_30) y8_3_31 y8_4_32 y8_5_33).Attrs)), (L 6 e_api_Node ((T_api_Node.mk y8_0_28 (T_api_Name.mk y8_1_29 y8_2_30) y8_3_31 y8_4_32 y8_5_33).Kids)), (S ((T_api_Node.mk y8_0_28 (T_api_Name.mk y8_1_29 y8_2_30) y8_3_31 y8_4_32 y8_5_33).Text))]))], [(2, (.box true [(.v (.int .i64 y2_0_22)), (S y2_1_23), (S y2_2_24), (L 3 e_api_Attr y2_3_25), (L 6 e_api_Node y2_4_26), (S y2_5_27)])), (8, (.box true [(.v (.int .i64 y8_0_28)), (S y8_1_29), (S y8_2_30), (L 3 e_api_Attr y8_3_31), (L 6 e_api_Node y8_4_32), (S y8_5_33)])), (13, (.rows true 30 9 ((y13_34 ++ ([(T_api_Step.mk 1 false (T_api_Name.mk ((T_api_Name.mk y8_1_29 y8_2_30).Space) ((T_api_Name.mk y8_1_29 y8_2_30).Local)) x7_20 false (T_api_Name.mk ([] : Str) ([] : Str)) ([] : Str))] : List T_api_Step)).map e_api_Step)))]⟩) (.mk ⟨.same _, .same _, .same _, .same _, .same _, DLe.of_eq (congrArg D.agg (e_api_Node_c _).symm), trivial⟩ ⟨.same _, .same _, .same _, trivial⟩) ?_
            refine OpsOk.cons rfl (OpOk.to (σ2 := St.put ⟨_, (2, (.box true [(.v (.int .i64 ((T_api_Node.mk y8_0_28 (T_api_Name.mk y8_1_29 y8_2_30) y8_3_31 y8_4_32 y8_5_33).Kind))), (S ((T_api_Node.mk y8_0_28 (T_api_Name.mk y8_1_29 y8_2_30) y8_3_31 y8_4_32 y8_5_33).Name.Space)), (S ((T_api_Node.mk y8_0_28 (T_api_Name.mk y8_1_29 y8_2_30) y8_3_31 y8_4_32 y8_5_33).Name.Local)), (L 3 e_api_Attr ((T_api_Node.mk y8_0_28 (T_api_Name.mk y8_1_29 y8_2_30) y8_3_31 y8_4_32 y8_5_33).Attrs)), (L 6 e_api_Node ((T_api_Node.mk y8_0_28 (T_api_Name.mk y8_1_29 y8_2_30) y8_3_31 y8_4_32 y8_5_33).Kids)), (S ((T_api_Node.mk y8_0_28 (T_api_Name.mk y8_1_29 y8_2_30) y8_3_31 y8_4_32 y8_5_33).Text))])) :: _⟩ _ .junk) (.storeB rfl sz27 rfl rfl rfl rfl rfl) rfl) ?_
            exact .done (.mk ⟨.same _, .same _, .same _, .same _, trivial⟩ ⟨.same _, .same _, trivial⟩)
          refine Ok.region (σ' := ⟨[(1, (L 1 (eI .i64) a1)), (2, (.bref 2 0)), (5, (.sref 13)), (6, (.v (.int .i64 (IntKind.i64.wrap (x6_1 + 1)))))], [(2, (.box true [(.v (.int .i64 ((T_api_Node.mk y8_0_28 (T_api_Name.mk y8_1_29 y8_2_30) y8_3_31 y8_4_32 y8_5_33).Kind))), (S ((T_api_Node.mk y8_0_28 (T_api_Name.mk y8_1_29 y8_2_30) y8_3_31 y8_4_32 y8_5_33).Name.Space)), (S ((T_api_Node.mk y8_0_28 (T_api_Name.mk y8_1_29 y8_2_30) y8_3_31 y8_4_32 y8_5_33).Name.Local)), (L 3 e_api_Attr ((T_api_Node.mk y8_0_28 (T_api_Name.mk y8_1_29 y8_2_30) y8_3_31 y8_4_32 y8_5_33).Attrs)), (L 6 e_api_Node ((T_api_Node.mk y8_0_28 (T_api_Name.mk y8_1_29 y8_2_30) y8_3_31 y8_4_32 y8_5_33).Kids)), (S ((T_api_Node.mk y8_0_28 (T_api_Name.mk y8_1_29 y8_2_30) y8_3_31 y8_4_32 y8_5_33).Text))])), (13, (.rows true 30 9 ((y13_34 ++ ([(T_api_Step.mk 1 false (T_api_Name.mk ((T_api_Name.mk y8_1_29 y8_2_30).Space) ((T_api_Name.mk y8_1_29 y8_2_30).Local)) x7_20 false (T_api_Name.mk ([] : Str) ([] : Str)) ([] : Str))] : List T_api_Step)).map e_api_Step)))]⟩) ?_ ?_
          · refine OpsOk.cons rfl (.v (VOk.mv (d := (.v (.int .i64 x6_1))) rfl rfl) rfl) ?_
            refine OpsOk.cons rfl (.v (VOk.arith (op := .add) (k := .i64) (a := x6_1) (b := 1) rfl rfl rfl rfl) rfl) ?_
            refine OpsOk.cons rfl (.v (VOk.asg (d := (.v (.int .i64 (IntKind.i64.wrap (x6_1 + 1))))) rfl rfl) rfl) ?_
            exact .done (.mk ⟨.same _, .same _, .same _, .same _, trivial⟩ ⟨.same _, .same _, trivial⟩)
          exact ⟨m17, Nat.lt_succ_self m17, ((T_api_Node.mk y8_0_28 (T_api_Name.mk y8_1_29 y8_2_30) y8_3_31 y8_4_32 y8_5_33).Kind), ((T_api_Node.mk y8_0_28 (T_api_Name.mk y8_1_29 y8_2_30) y8_3_31 y8_4_32 y8_5_33).Name.Space), ((T_api_Node.mk y8_0_28 (T_api_Name.mk y8_1_29 y8_2_30) y8_3_31 y8_4_32 y8_5_33).Name.Local), ((T_api_Node.mk y8_0_28 (T_api_Name.mk y8_1_29 y8_2_30) y8_3_31 y8_4_32 y8_5_33).Attrs), ((T_api_Node.mk y8_0_28 (T_api_Name.mk y8_1_29 y8_2_30) y8_3_31 y8_4_32 y8_5_33).Kids), ((T_api_Node.mk y8_0_28 (T_api_Name.mk y8_1_29 y8_2_30) y8_3_31 y8_4_32 y8_5_33).Text), (y13_34 ++ ([(T_api_Step.mk 1 false (T_api_Name.mk ((T_api_Name.mk y8_1_29 y8_2_30).Space) ((T_api_Name.mk y8_1_29 y8_2_30).Local)) x7_20 false (T_api_Name.mk ([] : Str) ([] : Str)) ([] : Str))] : List T_api_Step)), (IntKind.i64.wrap (x6_1 + 1)), rfl, H⟩
    · replace H := ifF H hb59
      refine Ok.le (σ' := ⟨[(5, (.sref 13))], [(13, (.rows true 30 9 (y13_8.map e_api_Step)))]⟩) (.mk ⟨.same _, trivial⟩ ⟨.same _, trivial⟩) ?_
      refine Ok.exit ?_
      refine Ok.seq ?_
      refine Ok.region (σ' := ⟨[(4, (.sref 13))], [(13, (.rows true 30 9 (y13_8.map e_api_Step)))]⟩) ?_ ?_
      · refine OpsOk.cons rfl (.v (VOk.mv (d := (.sref 13)) rfl rfl) rfl) ?_
        refine OpsOk.cons rfl (.v (VOk.asg (d := (.sref 13)) rfl rfl) rfl) ?_
        exact .done (.mk ⟨.same _, trivial⟩ ⟨.same _, trivial⟩)
      refine Ok.frzL 13 (e := e_api_Step) (xs := y13_8) rfl ?_
      refine Ok.le (σ' := ⟨[(4, (L 9 e_api_Step y13_8))], []⟩) (.mk ⟨.same _, trivial⟩ trivial) ?_
      refine Ok.ret ?_
      obtain rfl := Option.some.inj H
      exact ⟨.inl rfl, ⟨_, (.cons (.tmp rfl) .nil), rfl⟩, trivial⟩

/-! watchbill/watchbilllaw12.MatchEach: function 6 -/
def watchbilllaw12_MatchEach.l0 (k : Nat) (t5 : (List (List Int))) : Nat → Int → Str → Str → List T_api_Attr → List T_api_Node → Str → Int → Option Bool
  | 0, _, _, _, _, _, _, _ => none
  | m21 + 1, y1_0_8, y1_1_9, y1_2_10, y1_3_11, y1_4_12, y1_5_13, x4_7 => (if (decide (x4_7 < (t5.length : Int))) = true then (if (0 : Int) ≤ x4_7 ∧ x4_7 < (t5.length : Int) then ((path_At k (T_api_Node.mk y1_0_8 (T_api_Name.mk y1_1_9 y1_2_10) y1_3_11 y1_4_12 y1_5_13) (rd t5 x4_7)).bind fun (t23 : T_api_Node × Bool) => (if ((!t23.2) || (t23.1.Kind != 1)) = true then some false else (if (0 : Int) ≤ x4_7 ∧ x4_7 < (t5.length : Int) then ((watchbilllaw12_exact k (T_api_Node.mk y1_0_8 (T_api_Name.mk y1_1_9 y1_2_10) y1_3_11 y1_4_12 y1_5_13) (rd t5 x4_7)).bind fun (t28 : (List T_api_Step)) => ((match_Select k (T_api_Node.mk y1_0_8 (T_api_Name.mk y1_1_9 y1_2_10) y1_3_11 y1_4_12 y1_5_13) t28).bind fun (t30 : (List Int) × Int) => (if (((t30.2 != 0) == false) = true → (0 : Int) ≤ x4_7 ∧ x4_7 < (t5.length : Int)) then (((if ((t30.2 != 0) == false) = true then watchbillref06_Same k t30.1 (rd t5 x4_7) else some default)).bind fun (t34 : Bool) => (if ((t30.2 != 0) || (!t34)) = true then some false else watchbilllaw12_MatchEach.l0 k t5 m21 y1_0_8 y1_1_9 y1_2_10 y1_3_11 y1_4_12 y1_5_13 (IntKind.i64.wrap (x4_7 + 1)))) else none))) else none))) else none) else some true)
def watchbilllaw12_MatchEach (k : Nat) (a0 : T_api_Node) : Option Bool := ((watchbilllaw12_awake k).bind fun (t1 : Bool) => (if (!t1) = true then some false else ((watchbilllaw04_Few k a0).bind fun (t3 : Bool) => (if (!t3) = true then some true else ((path_Places k a0).bind fun (t5 : (List (List Int))) => (if (decide ((t5.length : Int) > 200)) = true then some true else watchbilllaw12_MatchEach.l0 k t5 k a0.Kind a0.Name.Space a0.Name.Local a0.Attrs a0.Kids a0.Text 0))))))
theorem watchbilllaw12_MatchEach.ok {k : Nat} {a0 : T_api_Node} {r : Bool} (H : watchbilllaw12_MatchEach k a0 = some r) : Vx.Fn Try.prog 6 [(.agg (e_api_Node a0))] [] (.v (.bool r)) [] := by
  unfold watchbilllaw12_MatchEach at H
  refine Vx.Fn.of_okR Try.func6 rfl (Nat.le_of_ble_eq_true rfl) ?_
  refine Ok.seq ?_
  refine Ok.region (σ' := ⟨[(1, (.bref 1 0))], [(1, (.box true [(.v (.int .i64 a0.Kind)), (S a0.Name.Space), (S a0.Name.Local), (L 3 e_api_Attr a0.Attrs), (L 6 e_api_Node a0.Kids), (S a0.Text)]))]⟩) ?_ ?_
  · refine OpsOk.cut (σ := ⟨[(0, (.agg [(.v (.int .i64 a0.Kind)), (S a0.Name.Space), (S a0.Name.Local), (L 3 e_api_Attr a0.Attrs), (L 6 e_api_Node a0.Kids), (S a0.Text)]))], []⟩) (.mk ⟨DLe.of_eq (congrArg D.agg (e_api_Node_c _).symm), trivial⟩ trivial) ?_
    refine OpsOk.cons rfl (OpOk.box 1 (cells := [(.v (.int .i64 a0.Kind)), (S a0.Name.Space), (S a0.Name.Local), (L 3 e_api_Attr a0.Attrs), (L 6 e_api_Node a0.Kids), (S a0.Text)]) rfl rfl rfl rfl) ?_
    refine OpsOk.cons rfl (.v (VOk.asg (d := (.v (.bool false))) rfl rfl) rfl) ?_
    exact .done (.mk ⟨.same _, trivial⟩ ⟨.same _, trivial⟩)
  refine Ok.seq ?_
  refine Ok.seq ?_
  obtain ⟨t1, h2, H⟩ := bindE H
  refine Ok.region (σ' := ⟨[(1, (.bref 1 0)), (10, (.v (.bool (!t1))))], [(1, (.box true [(.v (.int .i64 a0.Kind)), (S a0.Name.Space), (S a0.Name.Local), (L 3 e_api_Attr a0.Attrs), (L 6 e_api_Node a0.Kids), (S a0.Text)]))]⟩) ?_ ?_
  · refine OpsOk.cons rfl (.g (GOk.call rfl rfl cl7 rfl (watchbilllaw12_awake.ok h2) rfl) rfl) ?_
    refine OpsOk.cons rfl (.v (VOk.not (b := t1) rfl rfl) rfl) ?_
    exact .done (.mk ⟨.same _, .same _, trivial⟩ ⟨.same _, trivial⟩)
  refine Ok.test (b := (!t1)) rfl (fun hb42 => ?_) (fun hb42 => ?_)
  · replace H := ifT H hb42
    refine Ok.seq ?_
    refine Ok.region (σ' := ⟨[(2, (.v (.bool false)))], []⟩) ?_ ?_
    · refine OpsOk.cons rfl (.v (VOk.asg (d := (.v (.bool false))) rfl rfl) rfl) ?_
      exact .done (.mk ⟨.same _, trivial⟩ trivial)
    refine Ok.le (σ' := ⟨[(2, (.v (.bool false)))], []⟩) (.mk ⟨.same _, trivial⟩ trivial) ?_
    refine Ok.ret ?_
    obtain rfl := Option.some.inj H
    exact ⟨.inl rfl, ⟨_, (.cons (.tmp rfl) .nil), rfl⟩, trivial⟩
  · replace H := ifF H hb42
    refine Ok.le (σ' := ⟨[(1, (.bref 1 0))], [(1, (.box true [(.v (.int .i64 a0.Kind)), (S a0.Name.Space), (S a0.Name.Local), (L 3 e_api_Attr a0.Attrs), (L 6 e_api_Node a0.Kids), (S a0.Text)]))]⟩) (.mk ⟨.same _, trivial⟩ ⟨.same _, trivial⟩) ?_
    refine Ok.skip ?_
    refine Ok.seq ?_
    refine Ok.seq ?_
    obtain ⟨t3, h4, H⟩ := bindE H
    refine Ok.region (σ' := ⟨[(1, (.bref 1 0)), (13, (.v (.bool (!t3))))], [(1, (.box true [(.v (.int .i64 a0.Kind)), (S a0.Name.Space), (S a0.Name.Local), (L 3 e_api_Attr a0.Attrs), (L 6 e_api_Node a0.Kids), (S a0.Text)]))]⟩) ?_ ?_
    · refine OpsOk.cons rfl (.v (VOk.to (d' := (.agg (e_api_Node a0))) (.loadBAgg rfl Try.underlying27 rfl sz27 rfl rfl rfl) (congrArg D.agg (e_api_Node_c a0).symm)) rfl) ?_
      refine OpsOk.cons rfl (.g (GOk.call rfl rfl cl8 rfl (watchbilllaw04_Few.ok h4) rfl) rfl) ?_
      refine OpsOk.cons rfl (.v (VOk.not (b := t3) rfl rfl) rfl) ?_
      exact .done (.mk ⟨.same _, .same _, trivial⟩ ⟨.same _, trivial⟩)
    refine Ok.test (b := (!t3)) rfl (fun hb41 => ?_) (fun hb41 => ?_)
    · replace H := ifT H hb41
      refine Ok.seq ?_
      refine Ok.region (σ' := ⟨[(2, (.v (.bool true)))], []⟩) ?_ ?_
      · refine OpsOk.cons rfl (.v (VOk.asg (d := (.v (.bool true))) rfl rfl) rfl) ?_
        exact .done (.mk ⟨.same _, trivial⟩ trivial)
      refine Ok.le (σ' := ⟨[(2, (.v (.bool true)))], []⟩) (.mk ⟨.same _, trivial⟩ trivial) ?_
      refine Ok.ret ?_
      obtain rfl := Option.some.inj H
      exact ⟨.inl rfl, ⟨_, (.cons (.tmp rfl) .nil), rfl⟩, trivial⟩
    · replace H := ifF H hb41
      refine Ok.le (σ' := ⟨[(1, (.bref 1 0))], [(1, (.box true [(.v (.int .i64 a0.Kind)), (S a0.Name.Space), (S a0.Name.Local), (L 3 e_api_Attr a0.Attrs), (L 6 e_api_Node a0.Kids), (S a0.Text)]))]⟩) (.mk ⟨.same _, trivial⟩ ⟨.same _, trivial⟩) ?_
      refine Ok.skip ?_
      refine Ok.seq ?_
      obtain ⟨t5, h6, H⟩ := bindE H
      refine Ok.region (σ' := ⟨[(1, (.bref 1 0)), (3, (L 1 (eL 1 (eI .i64)) t5))], [(1, (.box true [(.v (.int .i64 a0.Kind)), (S a0.Name.Space), (S a0.Name.Local), (L 3 e_api_Attr a0.Attrs), (L 6 e_api_Node a0.Kids), (S a0.Text)]))]⟩) ?_ ?_
      · refine OpsOk.cons rfl (.v (VOk.to (d' := (.agg (e_api_Node a0))) (.loadBAgg rfl Try.underlying27 rfl sz27 rfl rfl rfl) (congrArg D.agg (e_api_Node_c a0).symm)) rfl) ?_
        refine OpsOk.cons rfl (.g (GOk.call rfl rfl cl21 rfl (path_Places.ok h6) rfl) rfl) ?_
        refine OpsOk.cons rfl (.v (VOk.asg (d := (L 1 (eL 1 (eI .i64)) t5)) rfl rfl) rfl) ?_
        exact .done (.mk ⟨.same _, .same _, trivial⟩ ⟨.same _, trivial⟩)
      refine Ok.seq ?_
      refine Ok.seq ?_
      refine Ok.region (σ' := ⟨[(1, (.bref 1 0)), (3, (L 1 (eL 1 (eI .i64)) t5)), (18, (.v (.bool (decide ((t5.length : Int) > 200)))))], [(1, (.box true [(.v (.int .i64 a0.Kind)), (S a0.Name.Space), (S a0.Name.Local), (L 3 e_api_Attr a0.Attrs), (L 6 e_api_Node a0.Kids), (S a0.Text)]))]⟩) ?_ ?_
      · refine OpsOk.cons rfl (.v (VOk.mv (d := (L 1 (eL 1 (eI .i64)) t5)) rfl rfl) rfl) ?_
        refine OpsOk.cons rfl (.v (VOk.lenL (e := (eL 1 (eI .i64))) (xs := t5) rfl Try.underlying34 rfl) rfl) ?_
        refine OpsOk.cons rfl (.v (VOk.arith (op := .gtr) (k := .i64) (a := (t5.length : Int)) (b := 200) rfl rfl rfl rfl) rfl) ?_
        exact .done (.mk ⟨.same _, .same _, .same _, trivial⟩ ⟨.same _, trivial⟩)
      refine Ok.test (b := (decide ((t5.length : Int) > 200))) rfl (fun hb40 => ?_) (fun hb40 => ?_)
      · replace H := ifT H hb40
        refine Ok.seq ?_
        refine Ok.region (σ' := ⟨[(2, (.v (.bool true)))], []⟩) ?_ ?_
        · refine OpsOk.cons rfl (.v (VOk.asg (d := (.v (.bool true))) rfl rfl) rfl) ?_
          exact .done (.mk ⟨.same _, trivial⟩ trivial)
        refine Ok.le (σ' := ⟨[(2, (.v (.bool true)))], []⟩) (.mk ⟨.same _, trivial⟩ trivial) ?_
        refine Ok.ret ?_
        obtain rfl := Option.some.inj H
        exact ⟨.inl rfl, ⟨_, (.cons (.tmp rfl) .nil), rfl⟩, trivial⟩
      · replace H := ifF H hb40
        refine Ok.le (σ' := ⟨[(1, (.bref 1 0)), (3, (L 1 (eL 1 (eI .i64)) t5))], [(1, (.box true [(.v (.int .i64 a0.Kind)), (S a0.Name.Space), (S a0.Name.Local), (L 3 e_api_Attr a0.Attrs), (L 6 e_api_Node a0.Kids), (S a0.Text)]))]⟩) (.mk ⟨.same _, .same _, trivial⟩ ⟨.same _, trivial⟩) ?_
        refine Ok.skip ?_
        refine Ok.seq ?_
        refine Ok.seq ?_
        refine Ok.region (σ' := ⟨[(1, (.bref 1 0)), (3, (L 1 (eL 1 (eI .i64)) t5)), (4, (.v (.int .i64 0)))], [(1, (.box true [(.v (.int .i64 a0.Kind)), (S a0.Name.Space), (S a0.Name.Local), (L 3 e_api_Attr a0.Attrs), (L 6 e_api_Node a0.Kids), (S a0.Text)]))]⟩) ?_ ?_
        · refine OpsOk.cons rfl (.v (VOk.asg (d := (.v (.int .i64 0))) rfl rfl) rfl) ?_
          exact .done (.mk ⟨.same _, .same _, .same _, trivial⟩ ⟨.same _, trivial⟩)
        refine Ok.block ?_
        refine Ok.le (σ' := ⟨[(1, (.bref 1 0)), (3, (L 1 (eL 1 (eI .i64)) t5)), (4, (.v (.int .i64 0)))], [(1, (.box true [(.v (.int .i64 a0.Kind)), (S a0.Name.Space), (S a0.Name.Local), (L 3 e_api_Attr a0.Attrs), (L 6 e_api_Node a0.Kids), (S a0.Text)]))]⟩) (.mk ⟨.same _, .same _, .same _, trivial⟩ ⟨.same _, trivial⟩) ?_
        refine Ok.loop (fun m21 σ => ∃ (y1_0_8 : Int) (y1_1_9 : Str) (y1_2_10 : Str) (y1_3_11 : List T_api_Attr) (y1_4_12 : List T_api_Node) (y1_5_13 : Str) (x4_7 : Int), σ = ⟨[(1, (.bref 1 0)), (3, (L 1 (eL 1 (eI .i64)) t5)), (4, (.v (.int .i64 x4_7)))], [(1, (.box true [(.v (.int .i64 y1_0_8)), (S y1_1_9), (S y1_2_10), (L 3 e_api_Attr y1_3_11), (L 6 e_api_Node y1_4_12), (S y1_5_13)]))]⟩ ∧ watchbilllaw12_MatchEach.l0 k t5 m21 y1_0_8 y1_1_9 y1_2_10 y1_3_11 y1_4_12 y1_5_13 x4_7 = some r) k ⟨a0.Kind, a0.Name.Space, a0.Name.Local, a0.Attrs, a0.Kids, a0.Text, 0, rfl, H⟩ ?_
        rintro m21 σ ⟨y1_0_8, y1_1_9, y1_2_10, y1_3_11, y1_4_12, y1_5_13, x4_7, rfl, H⟩
        cases m21 with
        | zero => exact absurd H (by simp [watchbilllaw12_MatchEach.l0])
        | succ m21 =>
          unfold watchbilllaw12_MatchEach.l0 at H
          refine Ok.seq ?_
          refine Ok.seq ?_
          refine Ok.region (σ' := ⟨[(1, (.bref 1 0)), (3, (L 1 (eL 1 (eI .i64)) t5)), (4, (.v (.int .i64 x4_7))), (22, (.v (.bool (decide (x4_7 < (t5.length : Int))))))], [(1, (.box true [(.v (.int .i64 y1_0_8)), (S y1_1_9), (S y1_2_10), (L 3 e_api_Attr y1_3_11), (L 6 e_api_Node y1_4_12), (S y1_5_13)]))]⟩) ?_ ?_
          · refine OpsOk.cons rfl (.v (VOk.mv (d := (.v (.int .i64 x4_7))) rfl rfl) rfl) ?_
            refine OpsOk.cons rfl (.v (VOk.mv (d := (L 1 (eL 1 (eI .i64)) t5)) rfl rfl) rfl) ?_
            refine OpsOk.cons rfl (.v (VOk.lenL (e := (eL 1 (eI .i64))) (xs := t5) rfl Try.underlying34 rfl) rfl) ?_
            refine OpsOk.cons rfl (.v (VOk.arith (op := .lss) (k := .i64) (a := x4_7) (b := (t5.length : Int)) rfl rfl rfl rfl) rfl) ?_
            exact .done (.mk ⟨.same _, .same _, .same _, .same _, trivial⟩ ⟨.same _, trivial⟩)
          refine Ok.test (b := (decide (x4_7 < (t5.length : Int)))) rfl (fun hb39 => ?_) (fun hb39 => ?_)
          · replace H := ifT H hb39
            refine Ok.le (σ' := ⟨[(1, (.bref 1 0)), (3, (L 1 (eL 1 (eI .i64)) t5)), (4, (.v (.int .i64 x4_7)))], [(1, (.box true [(.v (.int .i64 y1_0_8)), (S y1_1_9), (S y1_2_10), (L 3 e_api_Attr y1_3_11), (L 6 e_api_Node y1_4_12), (S y1_5_13)]))]⟩) (.mk ⟨.same _, .same _, .same _, trivial⟩ ⟨.same _, trivial⟩) ?_
            refine Ok.skip ?_
            refine Ok.seq ?_
            refine Ok.block ?_
            refine Ok.seq ?_
            obtain ⟨c22, H⟩ := assertE H
            obtain ⟨t23, h24, H⟩ := bindE H
            refine Ok.le (σ' := ⟨[(1, (.bref 1 0)), (3, (L 1 (eL 1 (eI .i64)) t5)), (4, (.v (.int .i64 x4_7)))], [(1, (.box true [(.v (.int .i64 y1_0_8)), (S y1_1_9), (S y1_2_10), (L 3 e_api_Attr y1_3_11), (L 6 e_api_Node y1_4_12), (S y1_5_13)]))]⟩) (.mk ⟨.same _, .same _, .same _, trivial⟩ ⟨.same _, trivial⟩) ?_
            refine Ok.drawE2 (σ' := ⟨[(1, (.bref 1 0)), (3, (L 1 (eL 1 (eI .i64)) t5)), (4, (.v (.int .i64 x4_7))), (5, (.bref 5 0)), (6, (.v (.bool t23.2)))], [(1, (.box true [(.v (.int .i64 y1_0_8)), (S y1_1_9), (S y1_2_10), (L 3 e_api_Attr y1_3_11), (L 6 e_api_Node y1_4_12), (S y1_5_13)])), (5, (.box true [(.v (.int .i64 t23.1.Kind)), (S t23.1.Name.Space), (S t23.1.Name.Local), (L 3 e_api_Attr t23.1.Attrs), (L 6 e_api_Node t23.1.Kids), (S t23.1.Text)]))]⟩) [⟨true, [(1, (.bref 1 0))], [(1, (.box true [(.v (.int .i64 y1_0_8)), (S y1_1_9), (S y1_2_10), (L 3 e_api_Attr y1_3_11), (L 6 e_api_Node y1_4_12), (S y1_5_13)]))], (.agg (e_api_Node (T_api_Node.mk y1_0_8 (T_api_Name.mk y1_1_9 y1_2_10) y1_3_11 y1_4_12 y1_5_13))), none, false⟩, ⟨true, [(3, (L 1 (eL 1 (eI .i64)) t5))], [], (L 1 (eL 1 (eI .i64)) t5), none, false⟩, ⟨true, [(4, (.v (.int .i64 x4_7)))], [], (.v (.int .i64 x4_7)), none, false⟩, ⟨true, [(27, (L 1 (eL 1 (eI .i64)) t5)), (28, (.v (.int .i64 x4_7)))], [], (.fp ((eL 1 (eI .i64)) (rd t5 x4_7)) 0), none, false⟩, ⟨true, [(29, (.fp ((eL 1 (eI .i64)) (rd t5 x4_7)) 0))], [], (L 1 (eI .i64) (rd t5 x4_7)), none, false⟩, ⟨true, [(26, (.agg (e_api_Node (T_api_Node.mk y1_0_8 (T_api_Name.mk y1_1_9 y1_2_10) y1_3_11 y1_4_12 y1_5_13)))), (30, (L 1 (eI .i64) (rd t5 x4_7)))], [], (.tup [(.agg (e_api_Node t23.1)), (.v (.bool t23.2))]), none, false⟩, ⟨true, [(31, (.tup [(.agg (e_api_Node t23.1)), (.v (.bool t23.2))]))], [], (.tup [(.agg (e_api_Node t23.1)), (.v (.bool t23.2))]), none, false⟩, ⟨true, [(25, (.tup [(.agg (e_api_Node t23.1)), (.v (.bool t23.2))]))], [], (.agg (e_api_Node t23.1)), none, false⟩, ⟨true, [(25, (.tup [(.agg (e_api_Node t23.1)), (.v (.bool t23.2))]))], [], (.v (.bool t23.2)), none, false⟩, ⟨true, [], [], (.bref 5 0), (some (5, (.box true [(.v (.int .i64 0)), (S ([] : Str)), (S ([] : Str)), (L 3 e_api_Attr ([] : List T_api_Attr)), (L 6 e_api_Node ([] : List T_api_Node)), (S ([] : Str))]))), true⟩, ⟨true, [(5, (.bref 5 0)), (32, (.agg [(.v (.int .i64 t23.1.Kind)), (S t23.1.Name.Space), (S t23.1.Name.Local), (L 3 e_api_Attr t23.1.Attrs), (L 6 e_api_Node t23.1.Kids), (S t23.1.Text)]))], [(5, (.box true [(.v (.int .i64 0)), (S ([] : Str)), (S ([] : Str)), (L 3 e_api_Attr ([] : List T_api_Attr)), (L 6 e_api_Node ([] : List T_api_Node)), (S ([] : Str))]))], .junk, (some (5, (.box true [(.v (.int .i64 t23.1.Kind)), (S t23.1.Name.Space), (S t23.1.Name.Local), (L 3 e_api_Attr t23.1.Attrs), (L 6 e_api_Node t23.1.Kids), (S t23.1.Text)]))), false⟩, ⟨true, [(33, (.v (.bool t23.2)))], [], (.v (.bool t23.2)), none, false⟩] [[], [], [], [1, 2], [3], [0, 4], [5], [6], [6], [], [7, 9], [8]] mixed (by kernel_rfl) ?_ ?_
            · refine TxtE2.cons ⟨.same _, trivial⟩ ⟨rfl, trivial⟩ (It2.val rfl rfl (fun T hT => (VOk.g (VOk.to (d' := (.agg (e_api_Node (T_api_Node.mk y1_0_8 (T_api_Name.mk y1_1_9 y1_2_10) y1_3_11 y1_4_12 y1_5_13)))) (.loadBAgg rfl Try.underlying27 rfl sz27 rfl hT.1 rfl) (congrArg D.agg (e_api_Node_c (T_api_Node.mk y1_0_8 (T_api_Name.mk y1_1_9 y1_2_10) y1_3_11 y1_4_12 y1_5_13)).symm))))) ?_
              refine TxtE2.cons ⟨.same _, trivial⟩ trivial (It2.val rfl rfl (fun T hT => (VOk.g (VOk.mv (d := (L 1 (eL 1 (eI .i64)) t5)) rfl rfl)))) ?_
              refine TxtE2.cons ⟨.same _, trivial⟩ trivial (It2.val rfl rfl (fun T hT => (VOk.g (VOk.mv (d := (.v (.int .i64 x4_7))) rfl rfl)))) ?_
              refine TxtE2.cons ⟨.same _, .same _, trivial⟩ trivial (It2.val rfl rfl (fun T hT => (VOk.g (VOk.indexL (sz := 1) (e := (eL 1 (eI .i64))) (xs := t5) (i := x4_7) rfl Try.underlying34 sz39 rfl rfl c22)))) ?_
              refine TxtE2.cons ⟨.same _, trivial⟩ trivial (It2.val rfl rfl (fun T hT => (VOk.g (VOk.loadFp (d := (L 1 (eI .i64) (rd t5 x4_7))) rfl Try.underlying39 rfl rfl rfl)))) ?_
              refine TxtE2.cons ⟨.same _, .same _, trivial⟩ trivial (It2.val rfl rfl (fun T hT => (GOk.call rfl rfl cl20 rfl (path_At.ok h24) rfl))) ?_
              refine TxtE2.cons ⟨.same _, trivial⟩ trivial (It2.val rfl rfl (fun T hT => (VOk.g (VOk.mv (d := (.tup [(.agg (e_api_Node t23.1)), (.v (.bool t23.2))])) rfl rfl)))) ?_
              refine TxtE2.cons ⟨.same _, trivial⟩ trivial (It2.val rfl rfl (fun T hT => (VOk.g (VOk.extract (d := (.agg (e_api_Node t23.1))) rfl rfl rfl)))) ?_
              refine TxtE2.cons ⟨.same _, trivial⟩ trivial (It2.val rfl rfl (fun T hT => (VOk.g (VOk.extract (d := (.v (.bool t23.2))) rfl rfl rfl)))) ?_
              refine TxtE2.cons trivial trivial (It2.alloc 5 [none, none, none, some 3, some 6, none] rfl rfl zo27 rfl rfl) ?_
              refine TxtE2.cons ⟨.same _, DLe.of_eq (congrArg D.agg (e_api_Node_c _).symm), trivial⟩ ⟨rfl, trivial⟩ (It2.store rfl rfl sz27 rfl rfl rfl rfl rfl rfl rfl) ?_
              refine TxtE2.cons ⟨.same _, trivial⟩ trivial (It2.val rfl rfl (fun T hT => (VOk.g (VOk.asg (d := (.v (.bool t23.2))) rfl rfl)))) ?_
              exact .done (.mk ⟨.same _, .same _, .same _, .same _, .same _, trivial⟩ ⟨.same _, .same _, trivial⟩)
            refine Ok.seq ?_
            refine Ok.seq ?_
            refine Ok.region (σ' := ⟨[(1, (.bref 1 0)), (3, (L 1 (eL 1 (eI .i64)) t5)), (4, (.v (.int .i64 x4_7))), (40, (.v (.bool ((!t23.2) || (t23.1.Kind != 1)))))], [(1, (.box true [(.v (.int .i64 y1_0_8)), (S y1_1_9), (S y1_2_10), (L 3 e_api_Attr y1_3_11), (L 6 e_api_Node y1_4_12), (S y1_5_13)]))]⟩) ?_ ?_
            · refine OpsOk.cons rfl (.v (VOk.mv (d := (.v (.bool t23.2))) rfl rfl) rfl) ?_
              refine OpsOk.cons rfl (.v (VOk.not (b := t23.2) rfl rfl) rfl) ?_
              refine OpsOk.cons rfl (.v (VOk.mv (d := (.v (.bool (!t23.2)))) rfl rfl) rfl) ?_
              refine OpsOk.consI rfl rfl rfl (.one rfl) rfl (fun hw25 => (VOk.g (VOk.to (VOk.fieldB rfl Try.underlying27 rfl sz3 rfl rfl) rfl))) ?_
              refine OpsOk.consI rfl rfl rfl (.one rfl) rfl (fun hw25 => (GOk.fr (fr' := [(37, (.bref 5 0))]) ⟨DLe.of_eq (cT hw25).symm, trivial⟩ (VOk.g (VOk.loadB (d := (.v (.int .i64 t23.1.Kind))) rfl Try.underlying3 rfl rfl rfl rfl)))) ?_
              refine OpsOk.consI rfl rfl rfl (.one rfl) rfl (fun hw25 => (GOk.fr (fr' := [(38, (.v (.int .i64 t23.1.Kind)))]) ⟨DLe.of_eq (cT hw25).symm, trivial⟩ (VOk.g (VOk.arith (op := .neq) (k := .i64) (a := t23.1.Kind) (b := 1) rfl rfl rfl rfl)))) ?_
              refine OpsOk.cons rfl (.v (VOk.to (VOk.pickI (b := (!t23.2)) (p := true) (q := (t23.1.Kind != 1)) rfl rfl (fun hp26 => rfl) (fun hp26 => (cT (f_beq hp26)))) (pickOr (!t23.2) (t23.1.Kind != 1))) rfl) ?_
              exact .done (.mk ⟨.same _, .same _, .same _, .same _, trivial⟩ ⟨.same _, trivial⟩)
            refine Ok.test (b := ((!t23.2) || (t23.1.Kind != 1))) rfl (fun hb38 => ?_) (fun hb38 => ?_)
            · replace H := ifT H hb38
              refine Ok.seq ?_
              refine Ok.region (σ' := ⟨[(2, (.v (.bool false)))], []⟩) ?_ ?_
              · refine OpsOk.cons rfl (.v (VOk.asg (d := (.v (.bool false))) rfl rfl) rfl) ?_
                exact .done (.mk ⟨.same _, trivial⟩ trivial)
              refine Ok.le (σ' := ⟨[(2, (.v (.bool false)))], []⟩) (.mk ⟨.same _, trivial⟩ trivial) ?_
              refine Ok.ret ?_
              obtain rfl := Option.some.inj H
              exact ⟨.inl rfl, ⟨_, (.cons (.tmp rfl) .nil), rfl⟩, trivial⟩
            · replace H := ifF H hb38
              refine Ok.le (σ' := ⟨[(1, (.bref 1 0)), (3, (L 1 (eL 1 (eI .i64)) t5)), (4, (.v (.int .i64 x4_7)))], [(1, (.box true [(.v (.int .i64 y1_0_8)), (S y1_1_9), (S y1_2_10), (L 3 e_api_Attr y1_3_11), (L 6 e_api_Node y1_4_12), (S y1_5_13)]))]⟩) (.mk ⟨.same _, .same _, .same _, trivial⟩ ⟨.same _, trivial⟩) ?_
              refine Ok.skip ?_
              refine Ok.seq ?_
              obtain ⟨c27, H⟩ := assertE H
              obtain ⟨t28, h29, H⟩ := bindE H
              obtain ⟨t30, h31, H⟩ := bindE H
              refine Ok.drawE (σ' := ⟨[(1, (.bref 1 0)), (3, (L 1 (eL 1 (eI .i64)) t5)), (4, (.v (.int .i64 x4_7))), (7, (L 1 (eI .i64) t30.1)), (8, (.v (.int .i64 t30.2)))], [(1, (.box true [(.v (.int .i64 y1_0_8)), (S y1_1_9), (S y1_2_10), (L 3 e_api_Attr y1_3_11), (L 6 e_api_Node y1_4_12), (S y1_5_13)]))]⟩) [⟨true, [(1, (.bref 1 0))], (.agg (e_api_Node (T_api_Node.mk y1_0_8 (T_api_Name.mk y1_1_9 y1_2_10) y1_3_11 y1_4_12 y1_5_13)))⟩, ⟨true, [(1, (.bref 1 0))], (.agg (e_api_Node (T_api_Node.mk y1_0_8 (T_api_Name.mk y1_1_9 y1_2_10) y1_3_11 y1_4_12 y1_5_13)))⟩, ⟨true, [(3, (L 1 (eL 1 (eI .i64)) t5))], (L 1 (eL 1 (eI .i64)) t5)⟩, ⟨true, [(4, (.v (.int .i64 x4_7)))], (.v (.int .i64 x4_7))⟩, ⟨true, [(44, (L 1 (eL 1 (eI .i64)) t5)), (45, (.v (.int .i64 x4_7)))], (.fp ((eL 1 (eI .i64)) (rd t5 x4_7)) 0)⟩, ⟨true, [(46, (.fp ((eL 1 (eI .i64)) (rd t5 x4_7)) 0))], (L 1 (eI .i64) (rd t5 x4_7))⟩, ⟨true, [(43, (.agg (e_api_Node (T_api_Node.mk y1_0_8 (T_api_Name.mk y1_1_9 y1_2_10) y1_3_11 y1_4_12 y1_5_13)))), (47, (L 1 (eI .i64) (rd t5 x4_7)))], (L 9 e_api_Step t28)⟩, ⟨true, [(42, (.agg (e_api_Node (T_api_Node.mk y1_0_8 (T_api_Name.mk y1_1_9 y1_2_10) y1_3_11 y1_4_12 y1_5_13)))), (48, (L 9 e_api_Step t28))], (.tup [(L 1 (eI .i64) t30.1), (.v (.int .i64 t30.2))])⟩, ⟨true, [(49, (.tup [(L 1 (eI .i64) t30.1), (.v (.int .i64 t30.2))]))], (.tup [(L 1 (eI .i64) t30.1), (.v (.int .i64 t30.2))])⟩, ⟨true, [(41, (.tup [(L 1 (eI .i64) t30.1), (.v (.int .i64 t30.2))]))], (L 1 (eI .i64) t30.1)⟩, ⟨true, [(41, (.tup [(L 1 (eI .i64) t30.1), (.v (.int .i64 t30.2))]))], (.v (.int .i64 t30.2))⟩, ⟨true, [(50, (L 1 (eI .i64) t30.1))], (L 1 (eI .i64) t30.1)⟩, ⟨true, [(51, (.v (.int .i64 t30.2)))], (.v (.int .i64 t30.2))⟩] [[], [], [], [], [2, 3], [4], [1, 5], [0, 6], [7], [8], [8], [9], [10]] mixed (by kernel_rfl) ?_ ?_
              · refine TxtE.cons rfl ⟨.same _, trivial⟩ rfl (VOk.g (VOk.to (d' := (.agg (e_api_Node (T_api_Node.mk y1_0_8 (T_api_Name.mk y1_1_9 y1_2_10) y1_3_11 y1_4_12 y1_5_13)))) (.loadBAgg rfl Try.underlying27 rfl sz27 rfl rfl rfl) (congrArg D.agg (e_api_Node_c (T_api_Node.mk y1_0_8 (T_api_Name.mk y1_1_9 y1_2_10) y1_3_11 y1_4_12 y1_5_13)).symm))) ?_
                refine TxtE.cons rfl ⟨.same _, trivial⟩ rfl (VOk.g (VOk.to (d' := (.agg (e_api_Node (T_api_Node.mk y1_0_8 (T_api_Name.mk y1_1_9 y1_2_10) y1_3_11 y1_4_12 y1_5_13)))) (.loadBAgg rfl Try.underlying27 rfl sz27 rfl rfl rfl) (congrArg D.agg (e_api_Node_c (T_api_Node.mk y1_0_8 (T_api_Name.mk y1_1_9 y1_2_10) y1_3_11 y1_4_12 y1_5_13)).symm))) ?_
                refine TxtE.cons rfl ⟨.same _, trivial⟩ rfl (VOk.g (VOk.mv (d := (L 1 (eL 1 (eI .i64)) t5)) rfl rfl)) ?_
                refine TxtE.cons rfl ⟨.same _, trivial⟩ rfl (VOk.g (VOk.mv (d := (.v (.int .i64 x4_7))) rfl rfl)) ?_
                refine TxtE.cons rfl ⟨.same _, .same _, trivial⟩ rfl (VOk.g (VOk.indexL (sz := 1) (e := (eL 1 (eI .i64))) (xs := t5) (i := x4_7) rfl Try.underlying34 sz39 rfl rfl c27)) ?_
                refine TxtE.cons rfl ⟨.same _, trivial⟩ rfl (VOk.g (VOk.loadFp (d := (L 1 (eI .i64) (rd t5 x4_7))) rfl Try.underlying39 rfl rfl rfl)) ?_
                refine TxtE.cons rfl ⟨.same _, .same _, trivial⟩ rfl (GOk.call rfl rfl cl22 rfl (watchbilllaw12_exact.ok h29) rfl) ?_
                refine TxtE.cons rfl ⟨.same _, .same _, trivial⟩ rfl (GOk.call rfl rfl cl17 rfl (match_Select.ok h31) rfl) ?_
                refine TxtE.cons rfl ⟨.same _, trivial⟩ rfl (VOk.g (VOk.mv (d := (.tup [(L 1 (eI .i64) t30.1), (.v (.int .i64 t30.2))])) rfl rfl)) ?_
                refine TxtE.cons rfl ⟨.same _, trivial⟩ rfl (VOk.g (VOk.extract (d := (L 1 (eI .i64) t30.1)) rfl rfl rfl)) ?_
                refine TxtE.cons rfl ⟨.same _, trivial⟩ rfl (VOk.g (VOk.extract (d := (.v (.int .i64 t30.2))) rfl rfl rfl)) ?_
                refine TxtE.cons rfl ⟨.same _, trivial⟩ rfl (VOk.g (VOk.asg (d := (L 1 (eI .i64) t30.1)) rfl rfl)) ?_
                refine TxtE.cons rfl ⟨.same _, trivial⟩ rfl (VOk.g (VOk.asg (d := (.v (.int .i64 t30.2))) rfl rfl)) ?_
                exact .done (.mk ⟨.same _, .same _, .same _, .same _, .same _, trivial⟩ ⟨.same _, trivial⟩)
              refine Ok.seq ?_
              obtain ⟨c33, H⟩ := assertE H
              obtain ⟨t34, h35, H⟩ := bindE H
              refine Ok.region (σ' := ⟨[(1, (.bref 1 0)), (3, (L 1 (eL 1 (eI .i64)) t5)), (4, (.v (.int .i64 x4_7))), (62, (.v (.bool ((t30.2 != 0) || (!t34)))))], [(1, (.box true [(.v (.int .i64 y1_0_8)), (S y1_1_9), (S y1_2_10), (L 3 e_api_Attr y1_3_11), (L 6 e_api_Node y1_4_12), (S y1_5_13)]))]⟩) ?_ ?_
              · refine OpsOk.cons rfl (.v (VOk.mv (d := (.v (.int .i64 t30.2))) rfl rfl) rfl) ?_
                refine OpsOk.cons rfl (.v (VOk.arith (op := .neq) (k := .i64) (a := t30.2) (b := 0) rfl rfl rfl rfl) rfl) ?_
                refine OpsOk.cons rfl (.v (VOk.mv (d := (.v (.bool (t30.2 != 0)))) rfl rfl) rfl) ?_
                refine OpsOk.consI rfl rfl rfl (.one rfl) rfl (fun hw32 => (VOk.g (VOk.mv (d := (L 1 (eI .i64) t30.1)) rfl rfl))) ?_
                refine OpsOk.consI rfl rfl rfl (.one rfl) rfl (fun hw32 => (VOk.g (VOk.mv (d := (L 1 (eL 1 (eI .i64)) t5)) rfl rfl))) ?_
                refine OpsOk.consI rfl rfl rfl (.one rfl) rfl (fun hw32 => (VOk.g (VOk.mv (d := (.v (.int .i64 x4_7))) rfl rfl))) ?_
                refine OpsOk.consI rfl rfl rfl (.one rfl) rfl (fun hw32 => (GOk.fr (fr' := [(56, (L 1 (eL 1 (eI .i64)) t5)), (57, (.v (.int .i64 x4_7)))]) ⟨DLe.of_eq (cT hw32).symm, DLe.of_eq (cT hw32).symm, trivial⟩ (VOk.g (VOk.indexL (sz := 1) (e := (eL 1 (eI .i64))) (xs := t5) (i := x4_7) rfl Try.underlying34 sz39 rfl rfl (c33 hw32))))) ?_
                refine OpsOk.consI rfl rfl rfl (.one rfl) rfl (fun hw32 => (GOk.fr (fr' := [(58, (.fp ((eL 1 (eI .i64)) (rd t5 x4_7)) 0))]) ⟨DLe.of_eq (cT hw32).symm, trivial⟩ (VOk.g (VOk.loadFp (d := (L 1 (eI .i64) (rd t5 x4_7))) rfl Try.underlying39 rfl rfl rfl)))) ?_
                refine OpsOk.consI rfl rfl rfl (.one rfl) rfl (fun hw32 => (GOk.fr (fr' := [(55, (L 1 (eI .i64) t30.1)), (59, (L 1 (eI .i64) (rd t5 x4_7)))]) ⟨DLe.of_eq (cT hw32).symm, DLe.of_eq (cT hw32).symm, trivial⟩ (GOk.call rfl rfl cl14 rfl (watchbillref06_Same.ok (ifT h35 hw32)) rfl))) ?_
                refine OpsOk.consI rfl rfl rfl (.one rfl) rfl (fun hw32 => (GOk.fr (fr' := [(60, (.v (.bool t34)))]) ⟨DLe.of_eq (cT hw32).symm, trivial⟩ (VOk.g (VOk.not (b := t34) rfl rfl)))) ?_
                refine OpsOk.cons rfl (.v (VOk.to (VOk.pickI (b := (t30.2 != 0)) (p := true) (q := (!t34)) rfl rfl (fun hp36 => rfl) (fun hp36 => (cT (f_beq hp36)))) (pickOr (t30.2 != 0) (!t34))) rfl) ?_
                exact .done (.mk ⟨.same _, .same _, .same _, .same _, trivial⟩ ⟨.same _, trivial⟩)
              refine Ok.test (b := ((t30.2 != 0) || (!t34))) rfl (fun hb37 => ?_) (fun hb37 => ?_)
              · replace H := ifT H hb37
                refine Ok.seq ?_
                refine Ok.region (σ' := ⟨[(2, (.v (.bool false)))], []⟩) ?_ ?_
                · refine OpsOk.cons rfl (.v (VOk.asg (d := (.v (.bool false))) rfl rfl) rfl) ?_
                  exact .done (.mk ⟨.same _, trivial⟩ trivial)
                refine Ok.le (σ' := ⟨[(2, (.v (.bool false)))], []⟩) (.mk ⟨.same _, trivial⟩ trivial) ?_
                refine Ok.ret ?_
                obtain rfl := Option.some.inj H
                exact ⟨.inl rfl, ⟨_, (.cons (.tmp rfl) .nil), rfl⟩, trivial⟩
              · replace H := ifF H hb37
                refine Ok.le (σ' := ⟨[(1, (.bref 1 0)), (3, (L 1 (eL 1 (eI .i64)) t5)), (4, (.v (.int .i64 x4_7)))], [(1, (.box true [(.v (.int .i64 y1_0_8)), (S y1_1_9), (S y1_2_10), (L 3 e_api_Attr y1_3_11), (L 6 e_api_Node y1_4_12), (S y1_5_13)]))]⟩) (.mk ⟨.same _, .same _, .same _, trivial⟩ ⟨.same _, trivial⟩) ?_
                refine Ok.skip ?_
                refine Ok.region (σ' := ⟨[(1, (.bref 1 0)), (3, (L 1 (eL 1 (eI .i64)) t5)), (4, (.v (.int .i64 (IntKind.i64.wrap (x4_7 + 1)))))], [(1, (.box true [(.v (.int .i64 y1_0_8)), (S y1_1_9), (S y1_2_10), (L 3 e_api_Attr y1_3_11), (L 6 e_api_Node y1_4_12), (S y1_5_13)]))]⟩) ?_ ?_
                · refine OpsOk.cons rfl (.v (VOk.mv (d := (.v (.int .i64 x4_7))) rfl rfl) rfl) ?_
                  refine OpsOk.cons rfl (.v (VOk.arith (op := .add) (k := .i64) (a := x4_7) (b := 1) rfl rfl rfl rfl) rfl) ?_
                  refine OpsOk.cons rfl (.v (VOk.asg (d := (.v (.int .i64 (IntKind.i64.wrap (x4_7 + 1))))) rfl rfl) rfl) ?_
                  exact .done (.mk ⟨.same _, .same _, .same _, trivial⟩ ⟨.same _, trivial⟩)
                exact ⟨m21, Nat.lt_succ_self m21, y1_0_8, y1_1_9, y1_2_10, y1_3_11, y1_4_12, y1_5_13, (IntKind.i64.wrap (x4_7 + 1)), rfl, H⟩
          · replace H := ifF H hb39
            refine Ok.le (σ' := ⟨[], []⟩) (.mk trivial trivial) ?_
            refine Ok.exit ?_
            refine Ok.seq ?_
            refine Ok.region (σ' := ⟨[(2, (.v (.bool true)))], []⟩) ?_ ?_
            · refine OpsOk.cons rfl (.v (VOk.asg (d := (.v (.bool true))) rfl rfl) rfl) ?_
              exact .done (.mk ⟨.same _, trivial⟩ trivial)
            refine Ok.le (σ' := ⟨[(2, (.v (.bool true)))], []⟩) (.mk ⟨.same _, trivial⟩ trivial) ?_
            refine Ok.ret ?_
            obtain rfl := Option.some.inj H
            exact ⟨.inl rfl, ⟨_, (.cons (.tmp rfl) .nil), rfl⟩, trivial⟩

end Go.Proofs.Ytldkgladombmcaa.Sh
