import Derived.Test.YtldkgladombmcaaProg
import Derived.Test.YtldkgladombmcaaSha
namespace Go.Proofs.Ytldkgladombmcaa.Sh
open Go Go.RowKit Go.Proofs.Vx
set_option linter.unusedVariables false

set_option maxRecDepth 100000
set_option maxHeartbeats 1000000
/-! watchbill/watchbilllaw12.awake: function 7 -/
def watchbilllaw12_awake (k : Nat) : Option Bool := ((watchbilllaw12_el ([98] : Str) ([] : List T_api_Node)).bind fun (t1 : T_api_Node) => ((watchbilllaw12_el ([98] : Str) ([] : List T_api_Node)).bind fun (t3 : T_api_Node) => ((watchbilllaw12_el ([99] : Str) ([] : List T_api_Node)).bind fun (t5 : T_api_Node) => ((watchbilllaw12_el ([97] : Str) ([t3, t5, (T_api_Node.mk t1.Kind (T_api_Name.mk t1.Name.Space t1.Name.Local) ([(T_api_Attr.mk (T_api_Name.mk ((T_api_Name.mk ([] : Str) ([120] : Str)).Space) ((T_api_Name.mk ([] : Str) ([120] : Str)).Local)) ([49] : Str))] : List T_api_Attr) t1.Kids t1.Text)] : List T_api_Node)).bind fun (t7 : T_api_Node) => ((watchbilllaw12_step ([97] : Str) 0).bind fun (t9 : T_api_Step) => ((watchbilllaw12_step ([98] : Str) 2).bind fun (t11 : T_api_Step) => ((match_Select k t7 ([t9, t11] : List T_api_Step)).bind fun (t13 : (List Int) × Int) => ((watchbilllaw12_step ([97] : Str) 0).bind fun (t15 : T_api_Step) => ((watchbilllaw12_step ([98] : Str) 0).bind fun (t17 : T_api_Step) => ((match_Select k t7 ([t15, t17] : List T_api_Step)).bind fun (t19 : (List Int) × Int) => ((watchbilllaw12_step ([97] : Str) 0).bind fun (t21 : T_api_Step) => ((match_Select k t7 ([t21, (T_api_Step.mk 1 true (T_api_Name.mk ([] : Str) ([] : Str)) 0 true (T_api_Name.mk ((T_api_Name.mk ([] : Str) ([120] : Str)).Space) ((T_api_Name.mk ([] : Str) ([120] : Str)).Local)) ([49] : Str))] : List T_api_Step)).bind fun (t23 : (List Int) × Int) => (if ((((t13.1.length : Int) == 1) == true) = true → (0 : Int) ≤ 0 ∧ 0 < (t13.1.length : Int)) then (if ((((((((t13.1.length : Int) == 1) && ((rd t13.1 0) == 2)) && (t13.2 == 0)) && (t19.2 == 35)) && ((t23.1.length : Int) == 1)) == true) = true → (0 : Int) ≤ 0 ∧ 0 < (t23.1.length : Int)) then (((if (((((((((t13.1.length : Int) == 1) && ((rd t13.1 0) == 2)) && (t13.2 == 0)) && (t19.2 == 35)) && ((t23.1.length : Int) == 1)) && ((rd t23.1 0) == 2)) && (t23.2 == 0)) == true) = true then watchbilllaw12_step ([99] : Str) 1 else some default)).bind fun (t40 : T_api_Step) => (((if (((((((((t13.1.length : Int) == 1) && ((rd t13.1 0) == 2)) && (t13.2 == 0)) && (t19.2 == 35)) && ((t23.1.length : Int) == 1)) && ((rd t23.1 0) == 2)) && (t23.2 == 0)) == true) = true then match_Fits k t7 1 t40 else some default)).bind fun (t42 : Bool) => (((if ((((((((((t13.1.length : Int) == 1) && ((rd t13.1 0) == 2)) && (t13.2 == 0)) && (t19.2 == 35)) && ((t23.1.length : Int) == 1)) && ((rd t23.1 0) == 2)) && (t23.2 == 0)) && t42) == true) = true then watchbilllaw12_step ([97] : Str) 1 else some default)).bind fun (t46 : T_api_Step) => (((if ((((((((((t13.1.length : Int) == 1) && ((rd t13.1 0) == 2)) && (t13.2 == 0)) && (t19.2 == 35)) && ((t23.1.length : Int) == 1)) && ((rd t23.1 0) == 2)) && (t23.2 == 0)) && t42) == true) = true then watchbilllaw12_step ([98] : Str) 0 else some default)).bind fun (t48 : T_api_Step) => (((if ((((((((((t13.1.length : Int) == 1) && ((rd t13.1 0) == 2)) && (t13.2 == 0)) && (t19.2 == 35)) && ((t23.1.length : Int) == 1)) && ((rd t23.1 0) == 2)) && (t23.2 == 0)) && t42) == true) = true then match_Find k t7 ([t46, t48] : List T_api_Step) else some default)).bind fun (t50 : (List (List Int))) => some ((((((((((t13.1.length : Int) == 1) && ((rd t13.1 0) == 2)) && (t13.2 == 0)) && (t19.2 == 35)) && ((t23.1.length : Int) == 1)) && ((rd t23.1 0) == 2)) && (t23.2 == 0)) && t42) && ((t50.length : Int) == 2))))))) else none) else none)))))))))))))
theorem watchbilllaw12_awake.ok {k : Nat} {r : Bool} (H : watchbilllaw12_awake k = some r) : Vx.Fn Try.prog 7 [] [] (.v (.bool r)) [] := by
  unfold watchbilllaw12_awake at H
  refine Vx.Fn.of_okR Try.func7 rfl (Nat.le_of_ble_eq_true rfl) ?_
  refine Ok.seq ?_
  refine Ok.region (σ' := ⟨[], []⟩) ?_ ?_
  · refine OpsOk.cons rfl (.v (VOk.asg (d := (.v (.bool false))) rfl rfl) rfl) ?_
    exact .done (.mk trivial trivial)
  refine Ok.seq ?_
  obtain ⟨t1, h2, H⟩ := bindE H
  refine Ok.region (σ' := ⟨[(1, (.bref 1 0))], [(1, (.box true [(.v (.int .i64 t1.Kind)), (S t1.Name.Space), (S t1.Name.Local), (L 3 e_api_Attr t1.Attrs), (L 6 e_api_Node t1.Kids), (S t1.Text)]))]⟩) ?_ ?_
  · refine OpsOk.cons rfl (.g (GOk.call rfl rfl cl23 rfl (Fn.weak (ds := [(S ([98] : Str)), (L 6 e_api_Node ([] : List T_api_Node))]) (watchbilllaw12_el.ok h2) ⟨.same _, .nil _, trivial⟩) rfl) rfl) ?_
    refine OpsOk.cons rfl (OpOk.alloc 1 [none, none, none, some 3, some 6, none] rfl zo27 rfl rfl) ?_
    refine OpsOk.cut (σ := ⟨[(1, (.bref 1 0)), (9, (.agg [(.v (.int .i64 t1.Kind)), (S t1.Name.Space), (S t1.Name.Local), (L 3 e_api_Attr t1.Attrs), (L 6 e_api_Node t1.Kids), (S t1.Text)]))], [(1, (.box true [(.v (.int .i64 0)), (S ([] : Str)), (S ([] : Str)), (L 3 e_api_Attr ([] : List T_api_Attr)), (L 6 e_api_Node ([] : List T_api_Node)), (S ([] : Str))]))]⟩) (.mk ⟨.same _, DLe.of_eq (congrArg D.agg (e_api_Node_c _).symm), trivial⟩ ⟨.same _, trivial⟩) ?_
    refine OpsOk.cons rfl (OpOk.to (σ2 := St.put ⟨_, (1, (.box true [(.v (.int .i64 t1.Kind)), (S t1.Name.Space), (S t1.Name.Local), (L 3 e_api_Attr t1.Attrs), (L 6 e_api_Node t1.Kids), (S t1.Text)])) :: _⟩ _ .junk) (.storeB rfl sz27 rfl rfl rfl rfl rfl) rfl) ?_
    exact .done (.mk ⟨.same _, trivial⟩ ⟨.same _, trivial⟩)
  refine Ok.seq ?_
  refine Ok.region (σ' := ⟨[(1, (.bref 1 0))], [(1, (.box true [(.v (.int .i64 t1.Kind)), (S t1.Name.Space), (S t1.Name.Local), (L 3 e_api_Attr ([(T_api_Attr.mk (T_api_Name.mk ((T_api_Name.mk ([] : Str) ([120] : Str)).Space) ((T_api_Name.mk ([] : Str) ([120] : Str)).Local)) ([49] : Str))] : List T_api_Attr)), (L 6 e_api_Node t1.Kids), (S t1.Text)]))]⟩) ?_ ?_
  · refine OpsOk.cons rfl (.v (VOk.to (d' := (.agg (e_api_Name (T_api_Name.mk ([] : Str) ([120] : Str))))) (.build [none, none] [(0, 1), (1, 1)] rfl Try.underlying23 (fa23 Try.underlying23) zo23 rfl rfl) rfl) rfl) ?_
    refine OpsOk.cons rfl (.v (VOk.to (d' := (.agg (e_api_Attr (T_api_Attr.mk (T_api_Name.mk ((T_api_Name.mk ([] : Str) ([120] : Str)).Space) ((T_api_Name.mk ([] : Str) ([120] : Str)).Local)) ([49] : Str))))) (.build [none, none, none] [(0, 2), (2, 1)] rfl Try.underlying56 (fa56 Try.underlying56) zo56 rfl rfl) rfl) rfl) ?_
    refine OpsOk.cons rfl (.g (GOk.to (d' := (L 3 e_api_Attr ([(T_api_Attr.mk (T_api_Name.mk ((T_api_Name.mk ([] : Str) ([120] : Str)).Space) ((T_api_Name.mk ([] : Str) ([120] : Str)).Local)) ([49] : Str))] : List T_api_Attr))) (GOk.lit rfl Try.underlying24 sz56 zs56 rfl rfl rfl rfl) rfl) rfl) ?_
    refine OpsOk.cons rfl (.v (VOk.to (VOk.fieldB rfl Try.underlying27 rfl sz24 rfl rfl) rfl) rfl) ?_
    refine OpsOk.cons rfl (OpOk.to (σ2 := St.put ⟨_, (1, (.box true [(.v (.int .i64 t1.Kind)), (S t1.Name.Space), (S t1.Name.Local), (L 3 e_api_Attr ([(T_api_Attr.mk (T_api_Name.mk ((T_api_Name.mk ([] : Str) ([120] : Str)).Space) ((T_api_Name.mk ([] : Str) ([120] : Str)).Local)) ([49] : Str))] : List T_api_Attr)), (L 6 e_api_Node t1.Kids), (S t1.Text)])) :: _⟩ _ .junk) (.storeB rfl sz24 rfl rfl rfl rfl rfl) rfl) ?_
    exact .done (.mk ⟨.same _, trivial⟩ ⟨.same _, trivial⟩)
  refine Ok.seq ?_
  obtain ⟨t3, h4, H⟩ := bindE H
  obtain ⟨t5, h6, H⟩ := bindE H
  obtain ⟨t7, h8, H⟩ := bindE H
  refine Ok.le (σ' := ⟨[(1, (.bref 1 0))], [(1, (.box true [(.v (.int .i64 t1.Kind)), (S t1.Name.Space), (S t1.Name.Local), (L 3 e_api_Attr ([(T_api_Attr.mk (T_api_Name.mk ((T_api_Name.mk ([] : Str) ([120] : Str)).Space) ((T_api_Name.mk ([] : Str) ([120] : Str)).Local)) ([49] : Str))] : List T_api_Attr)), (L 6 e_api_Node t1.Kids), (S t1.Text)]))]⟩) (.mk ⟨.same _, trivial⟩ ⟨.same _, trivial⟩) ?_
  refine Ok.drawE2 (σ' := ⟨[(2, (.bref 2 0))], [(2, (.box true [(.v (.int .i64 t7.Kind)), (S t7.Name.Space), (S t7.Name.Local), (L 3 e_api_Attr t7.Attrs), (L 6 e_api_Node t7.Kids), (S t7.Text)]))]⟩) [⟨true, [], [], (.agg (e_api_Node t3)), none, false⟩, ⟨true, [], [], (.agg (e_api_Node t5)), none, false⟩, ⟨true, [(1, (.bref 1 0))], [(1, (.box true [(.v (.int .i64 t1.Kind)), (S t1.Name.Space), (S t1.Name.Local), (L 3 e_api_Attr ([(T_api_Attr.mk (T_api_Name.mk ((T_api_Name.mk ([] : Str) ([120] : Str)).Space) ((T_api_Name.mk ([] : Str) ([120] : Str)).Local)) ([49] : Str))] : List T_api_Attr)), (L 6 e_api_Node t1.Kids), (S t1.Text)]))], (.agg (e_api_Node (T_api_Node.mk t1.Kind (T_api_Name.mk t1.Name.Space t1.Name.Local) ([(T_api_Attr.mk (T_api_Name.mk ((T_api_Name.mk ([] : Str) ([120] : Str)).Space) ((T_api_Name.mk ([] : Str) ([120] : Str)).Local)) ([49] : Str))] : List T_api_Attr) t1.Kids t1.Text))), none, false⟩, ⟨true, [(14, (.agg (e_api_Node t3))), (15, (.agg (e_api_Node t5))), (16, (.agg (e_api_Node (T_api_Node.mk t1.Kind (T_api_Name.mk t1.Name.Space t1.Name.Local) ([(T_api_Attr.mk (T_api_Name.mk ((T_api_Name.mk ([] : Str) ([120] : Str)).Space) ((T_api_Name.mk ([] : Str) ([120] : Str)).Local)) ([49] : Str))] : List T_api_Attr) t1.Kids t1.Text))))], [], (L 6 e_api_Node ([t3, t5, (T_api_Node.mk t1.Kind (T_api_Name.mk t1.Name.Space t1.Name.Local) ([(T_api_Attr.mk (T_api_Name.mk ((T_api_Name.mk ([] : Str) ([120] : Str)).Space) ((T_api_Name.mk ([] : Str) ([120] : Str)).Local)) ([49] : Str))] : List T_api_Attr) t1.Kids t1.Text)] : List T_api_Node)), none, false⟩, ⟨true, [(17, (L 6 e_api_Node ([t3, t5, (T_api_Node.mk t1.Kind (T_api_Name.mk t1.Name.Space t1.Name.Local) ([(T_api_Attr.mk (T_api_Name.mk ((T_api_Name.mk ([] : Str) ([120] : Str)).Space) ((T_api_Name.mk ([] : Str) ([120] : Str)).Local)) ([49] : Str))] : List T_api_Attr) t1.Kids t1.Text)] : List T_api_Node)))], [], (.agg (e_api_Node t7)), none, false⟩, ⟨true, [], [], (.bref 2 0), (some (2, (.box true [(.v (.int .i64 0)), (S ([] : Str)), (S ([] : Str)), (L 3 e_api_Attr ([] : List T_api_Attr)), (L 6 e_api_Node ([] : List T_api_Node)), (S ([] : Str))]))), true⟩, ⟨true, [(2, (.bref 2 0)), (18, (.agg [(.v (.int .i64 t7.Kind)), (S t7.Name.Space), (S t7.Name.Local), (L 3 e_api_Attr t7.Attrs), (L 6 e_api_Node t7.Kids), (S t7.Text)]))], [(2, (.box true [(.v (.int .i64 0)), (S ([] : Str)), (S ([] : Str)), (L 3 e_api_Attr ([] : List T_api_Attr)), (L 6 e_api_Node ([] : List T_api_Node)), (S ([] : Str))]))], .junk, (some (2, (.box true [(.v (.int .i64 t7.Kind)), (S t7.Name.Space), (S t7.Name.Local), (L 3 e_api_Attr t7.Attrs), (L 6 e_api_Node t7.Kids), (S t7.Text)]))), false⟩] [[], [], [], [0, 1, 2], [3], [], [4, 5]] mixed (by kernel_rfl) ?_ ?_
  · refine TxtE2.cons trivial trivial (It2.val rfl rfl (fun T hT => (GOk.call rfl rfl cl23 rfl (Fn.weak (ds := [(S ([98] : Str)), (L 6 e_api_Node ([] : List T_api_Node))]) (watchbilllaw12_el.ok h4) ⟨.same _, .nil _, trivial⟩) rfl))) ?_
    refine TxtE2.cons trivial trivial (It2.val rfl rfl (fun T hT => (GOk.call rfl rfl cl23 rfl (Fn.weak (ds := [(S ([99] : Str)), (L 6 e_api_Node ([] : List T_api_Node))]) (watchbilllaw12_el.ok h6) ⟨.same _, .nil _, trivial⟩) rfl))) ?_
    refine TxtE2.cons ⟨.same _, trivial⟩ ⟨rfl, trivial⟩ (It2.val rfl rfl (fun T hT => (VOk.g (VOk.to (d' := (.agg (e_api_Node (T_api_Node.mk t1.Kind (T_api_Name.mk t1.Name.Space t1.Name.Local) ([(T_api_Attr.mk (T_api_Name.mk ((T_api_Name.mk ([] : Str) ([120] : Str)).Space) ((T_api_Name.mk ([] : Str) ([120] : Str)).Local)) ([49] : Str))] : List T_api_Attr) t1.Kids t1.Text)))) (.loadBAgg rfl Try.underlying27 rfl sz27 rfl hT.1 rfl) (congrArg D.agg (e_api_Node_c (T_api_Node.mk t1.Kind (T_api_Name.mk t1.Name.Space t1.Name.Local) ([(T_api_Attr.mk (T_api_Name.mk ((T_api_Name.mk ([] : Str) ([120] : Str)).Space) ((T_api_Name.mk ([] : Str) ([120] : Str)).Local)) ([49] : Str))] : List T_api_Attr) t1.Kids t1.Text)).symm))))) ?_
    refine TxtE2.cons ⟨.same _, .same _, .same _, trivial⟩ trivial (It2.val rfl rfl (fun T hT => (GOk.to (d' := (L 6 e_api_Node ([t3, t5, (T_api_Node.mk t1.Kind (T_api_Name.mk t1.Name.Space t1.Name.Local) ([(T_api_Attr.mk (T_api_Name.mk ((T_api_Name.mk ([] : Str) ([120] : Str)).Space) ((T_api_Name.mk ([] : Str) ([120] : Str)).Local)) ([49] : Str))] : List T_api_Attr) t1.Kids t1.Text)] : List T_api_Node))) (GOk.lit rfl Try.underlying25 sz27 zs27 rfl rfl rfl rfl) rfl))) ?_
    refine TxtE2.cons ⟨.same _, trivial⟩ trivial (It2.val rfl rfl (fun T hT => (GOk.call rfl rfl cl23 rfl (watchbilllaw12_el.ok h8) rfl))) ?_
    refine TxtE2.cons trivial trivial (It2.alloc 2 [none, none, none, some 3, some 6, none] rfl rfl zo27 rfl rfl) ?_
    refine TxtE2.cons ⟨.same _, DLe.of_eq (congrArg D.agg (e_api_Node_c _).symm), trivial⟩ ⟨rfl, trivial⟩ (It2.store rfl rfl sz27 rfl rfl rfl rfl rfl rfl rfl) ?_
    exact .done (.mk ⟨.same _, trivial⟩ ⟨.same _, trivial⟩)
  refine Ok.seq ?_
  obtain ⟨t9, h10, H⟩ := bindE H
  obtain ⟨t11, h12, H⟩ := bindE H
  obtain ⟨t13, h14, H⟩ := bindE H
  refine Ok.drawE (σ' := ⟨[(2, (.bref 2 0)), (3, (L 1 (eI .i64) t13.1)), (4, (.v (.int .i64 t13.2)))], [(2, (.box true [(.v (.int .i64 t7.Kind)), (S t7.Name.Space), (S t7.Name.Local), (L 3 e_api_Attr t7.Attrs), (L 6 e_api_Node t7.Kids), (S t7.Text)]))]⟩) [⟨true, [(2, (.bref 2 0))], (.agg (e_api_Node t7))⟩, ⟨true, [], (.agg (e_api_Step t9))⟩, ⟨true, [], (.agg (e_api_Step t11))⟩, ⟨true, [(21, (.agg (e_api_Step t9))), (22, (.agg (e_api_Step t11)))], (L 9 e_api_Step ([t9, t11] : List T_api_Step))⟩, ⟨true, [(20, (.agg (e_api_Node t7))), (23, (L 9 e_api_Step ([t9, t11] : List T_api_Step)))], (.tup [(L 1 (eI .i64) t13.1), (.v (.int .i64 t13.2))])⟩, ⟨true, [(24, (.tup [(L 1 (eI .i64) t13.1), (.v (.int .i64 t13.2))]))], (.tup [(L 1 (eI .i64) t13.1), (.v (.int .i64 t13.2))])⟩, ⟨true, [(19, (.tup [(L 1 (eI .i64) t13.1), (.v (.int .i64 t13.2))]))], (L 1 (eI .i64) t13.1)⟩, ⟨true, [(19, (.tup [(L 1 (eI .i64) t13.1), (.v (.int .i64 t13.2))]))], (.v (.int .i64 t13.2))⟩, ⟨true, [(25, (L 1 (eI .i64) t13.1))], (L 1 (eI .i64) t13.1)⟩, ⟨true, [(26, (.v (.int .i64 t13.2)))], (.v (.int .i64 t13.2))⟩] [[], [], [], [1, 2], [0, 3], [4], [5], [5], [6], [7]] mixed (by kernel_rfl) ?_ ?_
  · refine TxtE.cons rfl ⟨.same _, trivial⟩ rfl (VOk.g (VOk.to (d' := (.agg (e_api_Node t7))) (.loadBAgg rfl Try.underlying27 rfl sz27 rfl rfl rfl) (congrArg D.agg (e_api_Node_c t7).symm))) ?_
    refine TxtE.cons rfl trivial rfl (GOk.call rfl rfl cl24 rfl (watchbilllaw12_step.ok h10) rfl) ?_
    refine TxtE.cons rfl trivial rfl (GOk.call rfl rfl cl24 rfl (watchbilllaw12_step.ok h12) rfl) ?_
    refine TxtE.cons rfl ⟨.same _, .same _, trivial⟩ rfl (GOk.to (d' := (L 9 e_api_Step ([t9, t11] : List T_api_Step))) (GOk.lit rfl Try.underlying28 sz30 zs30 rfl rfl rfl rfl) rfl) ?_
    refine TxtE.cons rfl ⟨.same _, .same _, trivial⟩ rfl (GOk.call rfl rfl cl17 rfl (match_Select.ok h14) rfl) ?_
    refine TxtE.cons rfl ⟨.same _, trivial⟩ rfl (VOk.g (VOk.mv (d := (.tup [(L 1 (eI .i64) t13.1), (.v (.int .i64 t13.2))])) rfl rfl)) ?_
    refine TxtE.cons rfl ⟨.same _, trivial⟩ rfl (VOk.g (VOk.extract (d := (L 1 (eI .i64) t13.1)) rfl rfl rfl)) ?_
    refine TxtE.cons rfl ⟨.same _, trivial⟩ rfl (VOk.g (VOk.extract (d := (.v (.int .i64 t13.2))) rfl rfl rfl)) ?_
    refine TxtE.cons rfl ⟨.same _, trivial⟩ rfl (VOk.g (VOk.asg (d := (L 1 (eI .i64) t13.1)) rfl rfl)) ?_
    refine TxtE.cons rfl ⟨.same _, trivial⟩ rfl (VOk.g (VOk.asg (d := (.v (.int .i64 t13.2))) rfl rfl)) ?_
    exact .done (.mk ⟨.same _, .same _, .same _, trivial⟩ ⟨.same _, trivial⟩)
  refine Ok.seq ?_
  obtain ⟨t15, h16, H⟩ := bindE H
  obtain ⟨t17, h18, H⟩ := bindE H
  obtain ⟨t19, h20, H⟩ := bindE H
  refine Ok.drawE (σ' := ⟨[(2, (.bref 2 0)), (3, (L 1 (eI .i64) t13.1)), (4, (.v (.int .i64 t13.2))), (6, (.v (.int .i64 t19.2)))], [(2, (.box true [(.v (.int .i64 t7.Kind)), (S t7.Name.Space), (S t7.Name.Local), (L 3 e_api_Attr t7.Attrs), (L 6 e_api_Node t7.Kids), (S t7.Text)]))]⟩) [⟨true, [(2, (.bref 2 0))], (.agg (e_api_Node t7))⟩, ⟨true, [], (.agg (e_api_Step t15))⟩, ⟨true, [], (.agg (e_api_Step t17))⟩, ⟨true, [(29, (.agg (e_api_Step t15))), (30, (.agg (e_api_Step t17)))], (L 9 e_api_Step ([t15, t17] : List T_api_Step))⟩, ⟨true, [(28, (.agg (e_api_Node t7))), (31, (L 9 e_api_Step ([t15, t17] : List T_api_Step)))], (.tup [(L 1 (eI .i64) t19.1), (.v (.int .i64 t19.2))])⟩, ⟨true, [(32, (.tup [(L 1 (eI .i64) t19.1), (.v (.int .i64 t19.2))]))], (.tup [(L 1 (eI .i64) t19.1), (.v (.int .i64 t19.2))])⟩, ⟨true, [(27, (.tup [(L 1 (eI .i64) t19.1), (.v (.int .i64 t19.2))]))], (L 1 (eI .i64) t19.1)⟩, ⟨true, [(27, (.tup [(L 1 (eI .i64) t19.1), (.v (.int .i64 t19.2))]))], (.v (.int .i64 t19.2))⟩, ⟨true, [(33, (L 1 (eI .i64) t19.1))], (L 1 (eI .i64) t19.1)⟩, ⟨true, [(34, (.v (.int .i64 t19.2)))], (.v (.int .i64 t19.2))⟩] [[], [], [], [1, 2], [0, 3], [4], [5], [5], [6], [7]] mixed (by kernel_rfl) ?_ ?_
  · refine TxtE.cons rfl ⟨.same _, trivial⟩ rfl (VOk.g (VOk.to (d' := (.agg (e_api_Node t7))) (.loadBAgg rfl Try.underlying27 rfl sz27 rfl rfl rfl) (congrArg D.agg (e_api_Node_c t7).symm))) ?_
    refine TxtE.cons rfl trivial rfl (GOk.call rfl rfl cl24 rfl (watchbilllaw12_step.ok h16) rfl) ?_
    refine TxtE.cons rfl trivial rfl (GOk.call rfl rfl cl24 rfl (watchbilllaw12_step.ok h18) rfl) ?_
    refine TxtE.cons rfl ⟨.same _, .same _, trivial⟩ rfl (GOk.to (d' := (L 9 e_api_Step ([t15, t17] : List T_api_Step))) (GOk.lit rfl Try.underlying28 sz30 zs30 rfl rfl rfl rfl) rfl) ?_
    refine TxtE.cons rfl ⟨.same _, .same _, trivial⟩ rfl (GOk.call rfl rfl cl17 rfl (match_Select.ok h20) rfl) ?_
    refine TxtE.cons rfl ⟨.same _, trivial⟩ rfl (VOk.g (VOk.mv (d := (.tup [(L 1 (eI .i64) t19.1), (.v (.int .i64 t19.2))])) rfl rfl)) ?_
    refine TxtE.cons rfl ⟨.same _, trivial⟩ rfl (VOk.g (VOk.extract (d := (L 1 (eI .i64) t19.1)) rfl rfl rfl)) ?_
    refine TxtE.cons rfl ⟨.same _, trivial⟩ rfl (VOk.g (VOk.extract (d := (.v (.int .i64 t19.2))) rfl rfl rfl)) ?_
    refine TxtE.cons rfl ⟨.same _, trivial⟩ rfl (VOk.g (VOk.asg (d := (L 1 (eI .i64) t19.1)) rfl rfl)) ?_
    refine TxtE.cons rfl ⟨.same _, trivial⟩ rfl (VOk.g (VOk.asg (d := (.v (.int .i64 t19.2))) rfl rfl)) ?_
    exact .done (.mk ⟨.same _, .same _, .same _, .same _, trivial⟩ ⟨.same _, trivial⟩)
  refine Ok.seq ?_
  obtain ⟨t21, h22, H⟩ := bindE H
  obtain ⟨t23, h24, H⟩ := bindE H
  refine Ok.drawE (σ' := ⟨[(2, (.bref 2 0)), (3, (L 1 (eI .i64) t13.1)), (4, (.v (.int .i64 t13.2))), (6, (.v (.int .i64 t19.2))), (7, (L 1 (eI .i64) t23.1)), (8, (.v (.int .i64 t23.2)))], [(2, (.box true [(.v (.int .i64 t7.Kind)), (S t7.Name.Space), (S t7.Name.Local), (L 3 e_api_Attr t7.Attrs), (L 6 e_api_Node t7.Kids), (S t7.Text)]))]⟩) [⟨true, [(2, (.bref 2 0))], (.agg (e_api_Node t7))⟩, ⟨true, [], (.agg (e_api_Step t21))⟩, ⟨true, [], (.agg (e_api_Name (T_api_Name.mk ([] : Str) ([120] : Str))))⟩, ⟨true, [(38, (.agg (e_api_Name (T_api_Name.mk ([] : Str) ([120] : Str)))))], (.agg (e_api_Step (T_api_Step.mk 1 true (T_api_Name.mk ([] : Str) ([] : Str)) 0 true (T_api_Name.mk ((T_api_Name.mk ([] : Str) ([120] : Str)).Space) ((T_api_Name.mk ([] : Str) ([120] : Str)).Local)) ([49] : Str))))⟩, ⟨true, [(37, (.agg (e_api_Step t21))), (39, (.agg (e_api_Step (T_api_Step.mk 1 true (T_api_Name.mk ([] : Str) ([] : Str)) 0 true (T_api_Name.mk ((T_api_Name.mk ([] : Str) ([120] : Str)).Space) ((T_api_Name.mk ([] : Str) ([120] : Str)).Local)) ([49] : Str)))))], (L 9 e_api_Step ([t21, (T_api_Step.mk 1 true (T_api_Name.mk ([] : Str) ([] : Str)) 0 true (T_api_Name.mk ((T_api_Name.mk ([] : Str) ([120] : Str)).Space) ((T_api_Name.mk ([] : Str) ([120] : Str)).Local)) ([49] : Str))] : List T_api_Step))⟩, ⟨true, [(36, (.agg (e_api_Node t7))), (40, (L 9 e_api_Step ([t21, (T_api_Step.mk 1 true (T_api_Name.mk ([] : Str) ([] : Str)) 0 true (T_api_Name.mk ((T_api_Name.mk ([] : Str) ([120] : Str)).Space) ((T_api_Name.mk ([] : Str) ([120] : Str)).Local)) ([49] : Str))] : List T_api_Step)))], (.tup [(L 1 (eI .i64) t23.1), (.v (.int .i64 t23.2))])⟩, ⟨true, [(41, (.tup [(L 1 (eI .i64) t23.1), (.v (.int .i64 t23.2))]))], (.tup [(L 1 (eI .i64) t23.1), (.v (.int .i64 t23.2))])⟩, ⟨true, [(35, (.tup [(L 1 (eI .i64) t23.1), (.v (.int .i64 t23.2))]))], (L 1 (eI .i64) t23.1)⟩, ⟨true, [(35, (.tup [(L 1 (eI .i64) t23.1), (.v (.int .i64 t23.2))]))], (.v (.int .i64 t23.2))⟩, ⟨true, [(42, (L 1 (eI .i64) t23.1))], (L 1 (eI .i64) t23.1)⟩, ⟨true, [(43, (.v (.int .i64 t23.2)))], (.v (.int .i64 t23.2))⟩] [[], [], [], [2], [1, 3], [0, 4], [5], [6], [6], [7], [8]] mixed (by kernel_rfl) ?_ ?_
  · refine TxtE.cons rfl ⟨.same _, trivial⟩ rfl (VOk.g (VOk.to (d' := (.agg (e_api_Node t7))) (.loadBAgg rfl Try.underlying27 rfl sz27 rfl rfl rfl) (congrArg D.agg (e_api_Node_c t7).symm))) ?_
    refine TxtE.cons rfl trivial rfl (GOk.call rfl rfl cl24 rfl (watchbilllaw12_step.ok h22) rfl) ?_
    refine TxtE.cons rfl trivial rfl (VOk.g (VOk.to (d' := (.agg (e_api_Name (T_api_Name.mk ([] : Str) ([120] : Str))))) (.build [none, none] [(0, 1), (1, 1)] rfl Try.underlying23 (fa23 Try.underlying23) zo23 rfl rfl) rfl)) ?_
    refine TxtE.cons rfl ⟨.same _, trivial⟩ rfl (VOk.g (VOk.to (d' := (.agg (e_api_Step (T_api_Step.mk 1 true (T_api_Name.mk ([] : Str) ([] : Str)) 0 true (T_api_Name.mk ((T_api_Name.mk ([] : Str) ([120] : Str)).Space) ((T_api_Name.mk ([] : Str) ([120] : Str)).Local)) ([49] : Str))))) (.build [none, none, none, none, none, none, none, none, none] [(0, 1), (1, 1), (2, 2), (4, 1), (5, 1), (6, 2), (8, 1)] rfl Try.underlying30 (fa30 Try.underlying30) zo30 rfl rfl) rfl)) ?_
    refine TxtE.cons rfl ⟨.same _, .same _, trivial⟩ rfl (GOk.to (d' := (L 9 e_api_Step ([t21, (T_api_Step.mk 1 true (T_api_Name.mk ([] : Str) ([] : Str)) 0 true (T_api_Name.mk ((T_api_Name.mk ([] : Str) ([120] : Str)).Space) ((T_api_Name.mk ([] : Str) ([120] : Str)).Local)) ([49] : Str))] : List T_api_Step))) (GOk.lit rfl Try.underlying28 sz30 zs30 rfl rfl rfl rfl) rfl) ?_
    refine TxtE.cons rfl ⟨.same _, .same _, trivial⟩ rfl (GOk.call rfl rfl cl17 rfl (match_Select.ok h24) rfl) ?_
    refine TxtE.cons rfl ⟨.same _, trivial⟩ rfl (VOk.g (VOk.mv (d := (.tup [(L 1 (eI .i64) t23.1), (.v (.int .i64 t23.2))])) rfl rfl)) ?_
    refine TxtE.cons rfl ⟨.same _, trivial⟩ rfl (VOk.g (VOk.extract (d := (L 1 (eI .i64) t23.1)) rfl rfl rfl)) ?_
    refine TxtE.cons rfl ⟨.same _, trivial⟩ rfl (VOk.g (VOk.extract (d := (.v (.int .i64 t23.2))) rfl rfl rfl)) ?_
    refine TxtE.cons rfl ⟨.same _, trivial⟩ rfl (VOk.g (VOk.asg (d := (L 1 (eI .i64) t23.1)) rfl rfl)) ?_
    refine TxtE.cons rfl ⟨.same _, trivial⟩ rfl (VOk.g (VOk.asg (d := (.v (.int .i64 t23.2))) rfl rfl)) ?_
    exact .done (.mk ⟨.same _, .same _, .same _, .same _, .same _, .same _, trivial⟩ ⟨.same _, trivial⟩)
  refine Ok.seq ?_
  obtain ⟨c26, H⟩ := assertE H
  obtain ⟨c35, H⟩ := assertE H
  obtain ⟨t40, h41, H⟩ := bindE H
  obtain ⟨t42, h43, H⟩ := bindE H
  obtain ⟨t46, h47, H⟩ := bindE H
  obtain ⟨t48, h49, H⟩ := bindE H
  obtain ⟨t50, h51, H⟩ := bindE H
  refine Ok.drawE (σ' := ⟨[(0, (.v (.bool ((((((((((t13.1.length : Int) == 1) && ((rd t13.1 0) == 2)) && (t13.2 == 0)) && (t19.2 == 35)) && ((t23.1.length : Int) == 1)) && ((rd t23.1 0) == 2)) && (t23.2 == 0)) && t42) && ((t50.length : Int) == 2)))))], []⟩) [⟨true, [(3, (L 1 (eI .i64) t13.1))], (L 1 (eI .i64) t13.1)⟩, ⟨true, [(44, (L 1 (eI .i64) t13.1))], (.v (.int .i64 (t13.1.length : Int)))⟩, ⟨true, [(45, (.v (.int .i64 (t13.1.length : Int))))], (.v (.bool ((t13.1.length : Int) == 1)))⟩, ⟨true, [(46, (.v (.bool ((t13.1.length : Int) == 1))))], (.v (.bool ((t13.1.length : Int) == 1)))⟩, It.I (((t13.1.length : Int) == 1) == true) [(3, (L 1 (eI .i64) t13.1)), (47, (.v (.bool ((t13.1.length : Int) == 1))))] (L 1 (eI .i64) t13.1), It.I (((t13.1.length : Int) == 1) == true) [(48, (bif (((t13.1.length : Int) == 1) == true) then (L 1 (eI .i64) t13.1) else .v undef)), (47, (.v (.bool ((t13.1.length : Int) == 1))))] (.fp ((eI .i64) (rd t13.1 0)) 0), It.I (((t13.1.length : Int) == 1) == true) [(49, (bif (((t13.1.length : Int) == 1) == true) then (.fp ((eI .i64) (rd t13.1 0)) 0) else .v undef)), (47, (.v (.bool ((t13.1.length : Int) == 1))))] (.v (.int .i64 (rd t13.1 0))), It.I (((t13.1.length : Int) == 1) == true) [(50, (bif (((t13.1.length : Int) == 1) == true) then (.v (.int .i64 (rd t13.1 0))) else .v undef)), (47, (.v (.bool ((t13.1.length : Int) == 1))))] (.v (.bool ((rd t13.1 0) == 2))), ⟨true, [(47, (.v (.bool ((t13.1.length : Int) == 1)))), (51, (bif (((t13.1.length : Int) == 1) == true) then (.v (.bool ((rd t13.1 0) == 2))) else .v undef))], (.v (.bool (((t13.1.length : Int) == 1) && ((rd t13.1 0) == 2))))⟩, ⟨true, [(52, (.v (.bool (((t13.1.length : Int) == 1) && ((rd t13.1 0) == 2)))))], (.v (.bool (((t13.1.length : Int) == 1) && ((rd t13.1 0) == 2))))⟩, It.I ((((t13.1.length : Int) == 1) && ((rd t13.1 0) == 2)) == true) [(4, (.v (.int .i64 t13.2))), (53, (.v (.bool (((t13.1.length : Int) == 1) && ((rd t13.1 0) == 2)))))] (.v (.int .i64 t13.2)), It.I ((((t13.1.length : Int) == 1) && ((rd t13.1 0) == 2)) == true) [(54, (bif ((((t13.1.length : Int) == 1) && ((rd t13.1 0) == 2)) == true) then (.v (.int .i64 t13.2)) else .v undef)), (53, (.v (.bool (((t13.1.length : Int) == 1) && ((rd t13.1 0) == 2)))))] (.v (.bool (t13.2 == 0))), ⟨true, [(53, (.v (.bool (((t13.1.length : Int) == 1) && ((rd t13.1 0) == 2))))), (55, (bif ((((t13.1.length : Int) == 1) && ((rd t13.1 0) == 2)) == true) then (.v (.bool (t13.2 == 0))) else .v undef))], (.v (.bool ((((t13.1.length : Int) == 1) && ((rd t13.1 0) == 2)) && (t13.2 == 0))))⟩, ⟨true, [(56, (.v (.bool ((((t13.1.length : Int) == 1) && ((rd t13.1 0) == 2)) && (t13.2 == 0)))))], (.v (.bool ((((t13.1.length : Int) == 1) && ((rd t13.1 0) == 2)) && (t13.2 == 0))))⟩, It.I (((((t13.1.length : Int) == 1) && ((rd t13.1 0) == 2)) && (t13.2 == 0)) == true) [(6, (.v (.int .i64 t19.2))), (57, (.v (.bool ((((t13.1.length : Int) == 1) && ((rd t13.1 0) == 2)) && (t13.2 == 0)))))] (.v (.int .i64 t19.2)), It.I (((((t13.1.length : Int) == 1) && ((rd t13.1 0) == 2)) && (t13.2 == 0)) == true) [(58, (bif (((((t13.1.length : Int) == 1) && ((rd t13.1 0) == 2)) && (t13.2 == 0)) == true) then (.v (.int .i64 t19.2)) else .v undef)), (57, (.v (.bool ((((t13.1.length : Int) == 1) && ((rd t13.1 0) == 2)) && (t13.2 == 0)))))] (.v (.bool (t19.2 == 35))), ⟨true, [(57, (.v (.bool ((((t13.1.length : Int) == 1) && ((rd t13.1 0) == 2)) && (t13.2 == 0))))), (59, (bif (((((t13.1.length : Int) == 1) && ((rd t13.1 0) == 2)) && (t13.2 == 0)) == true) then (.v (.bool (t19.2 == 35))) else .v undef))], (.v (.bool (((((t13.1.length : Int) == 1) && ((rd t13.1 0) == 2)) && (t13.2 == 0)) && (t19.2 == 35))))⟩, ⟨true, [(60, (.v (.bool (((((t13.1.length : Int) == 1) && ((rd t13.1 0) == 2)) && (t13.2 == 0)) && (t19.2 == 35)))))], (.v (.bool (((((t13.1.length : Int) == 1) && ((rd t13.1 0) == 2)) && (t13.2 == 0)) && (t19.2 == 35))))⟩, It.I ((((((t13.1.length : Int) == 1) && ((rd t13.1 0) == 2)) && (t13.2 == 0)) && (t19.2 == 35)) == true) [(7, (L 1 (eI .i64) t23.1)), (61, (.v (.bool (((((t13.1.length : Int) == 1) && ((rd t13.1 0) == 2)) && (t13.2 == 0)) && (t19.2 == 35)))))] (L 1 (eI .i64) t23.1), It.I ((((((t13.1.length : Int) == 1) && ((rd t13.1 0) == 2)) && (t13.2 == 0)) && (t19.2 == 35)) == true) [(62, (bif ((((((t13.1.length : Int) == 1) && ((rd t13.1 0) == 2)) && (t13.2 == 0)) && (t19.2 == 35)) == true) then (L 1 (eI .i64) t23.1) else .v undef)), (61, (.v (.bool (((((t13.1.length : Int) == 1) && ((rd t13.1 0) == 2)) && (t13.2 == 0)) && (t19.2 == 35)))))] (.v (.int .i64 (t23.1.length : Int))), It.I ((((((t13.1.length : Int) == 1) && ((rd t13.1 0) == 2)) && (t13.2 == 0)) && (t19.2 == 35)) == true) [(63, (bif ((((((t13.1.length : Int) == 1) && ((rd t13.1 0) == 2)) && (t13.2 == 0)) && (t19.2 == 35)) == true) then (.v (.int .i64 (t23.1.length : Int))) else .v undef)), (61, (.v (.bool (((((t13.1.length : Int) == 1) && ((rd t13.1 0) == 2)) && (t13.2 == 0)) && (t19.2 == 35)))))] (.v (.bool ((t23.1.length : Int) == 1))), ⟨true, [(61, (.v (.bool (((((t13.1.length : Int) == 1) && ((rd t13.1 0) == 2)) && (t13.2 == 0)) && (t19.2 == 35))))), (64, (bif ((((((t13.1.length : Int) == 1) && ((rd t13.1 0) == 2)) && (t13.2 == 0)) && (t19.2 == 35)) == true) then (.v (.bool ((t23.1.length : Int) == 1))) else .v undef))], (.v (.bool ((((((t13.1.length : Int) == 1) && ((rd t13.1 0) == 2)) && (t13.2 == 0)) && (t19.2 == 35)) && ((t23.1.length : Int) == 1))))⟩, ⟨true, [(65, (.v (.bool ((((((t13.1.length : Int) == 1) && ((rd t13.1 0) == 2)) && (t13.2 == 0)) && (t19.2 == 35)) && ((t23.1.length : Int) == 1)))))], (.v (.bool ((((((t13.1.length : Int) == 1) && ((rd t13.1 0) == 2)) && (t13.2 == 0)) && (t19.2 == 35)) && ((t23.1.length : Int) == 1))))⟩, It.I (((((((t13.1.length : Int) == 1) && ((rd t13.1 0) == 2)) && (t13.2 == 0)) && (t19.2 == 35)) && ((t23.1.length : Int) == 1)) == true) [(7, (L 1 (eI .i64) t23.1)), (66, (.v (.bool ((((((t13.1.length : Int) == 1) && ((rd t13.1 0) == 2)) && (t13.2 == 0)) && (t19.2 == 35)) && ((t23.1.length : Int) == 1)))))] (L 1 (eI .i64) t23.1), It.I (((((((t13.1.length : Int) == 1) && ((rd t13.1 0) == 2)) && (t13.2 == 0)) && (t19.2 == 35)) && ((t23.1.length : Int) == 1)) == true) [(67, (bif (((((((t13.1.length : Int) == 1) && ((rd t13.1 0) == 2)) && (t13.2 == 0)) && (t19.2 == 35)) && ((t23.1.length : Int) == 1)) == true) then (L 1 (eI .i64) t23.1) else .v undef)), (66, (.v (.bool ((((((t13.1.length : Int) == 1) && ((rd t13.1 0) == 2)) && (t13.2 == 0)) && (t19.2 == 35)) && ((t23.1.length : Int) == 1)))))] (.fp ((eI .i64) (rd t23.1 0)) 0), It.I (((((((t13.1.length : Int) == 1) && ((rd t13.1 0) == 2)) && (t13.2 == 0)) && (t19.2 == 35)) && ((t23.1.length : Int) == 1)) == true) [(68, (bif (((((((t13.1.length : Int) == 1) && ((rd t13.1 0) == 2)) && (t13.2 == 0)) && (t19.2 == 35)) && ((t23.1.length : Int) == 1)) == true) then (.fp ((eI .i64) (rd t23.1 0)) 0) else .v undef)), (66, (.v (.bool ((((((t13.1.length : Int) == 1) && ((rd t13.1 0) == 2)) && (t13.2 == 0)) && (t19.2 == 35)) && ((t23.1.length : Int) == 1)))))] (.v (.int .i64 (rd t23.1 0))), It.I (((((((t13.1.length : Int) == 1) && ((rd t13.1 0) == 2)) && (t13.2 == 0)) && (t19.2 == 35)) && ((t23.1.length : Int) == 1)) == true) [(69, (bif (((((((t13.1.length : Int) == 1) && ((rd t13.1 0) == 2)) && (t13.2 == 0)) && (t19.2 == 35)) && ((t23.1.length : Int) == 1)) == true) then (.v (.int .i64 (rd t23.1 0))) else .v undef)), (66, (.v (.bool ((((((t13.1.length : Int) == 1) && ((rd t13.1 0) == 2)) && (t13.2 == 0)) && (t19.2 == 35)) && ((t23.1.length : Int) == 1)))))] (.v (.bool ((rd t23.1 0) == 2))), ⟨true, [(66, (.v (.bool ((((((t13.1.length : Int) == 1) && ((rd t13.1 0) == 2)) && (t13.2 == 0)) && (t19.2 == 35)) && ((t23.1.length : Int) == 1))))), (70, (bif (((((((t13.1.length : Int) == 1) && ((rd t13.1 0) == 2)) && (t13.2 == 0)) && (t19.2 == 35)) && ((t23.1.length : Int) == 1)) == true) then (.v (.bool ((rd t23.1 0) == 2))) else .v undef))], (.v (.bool (((((((t13.1.length : Int) == 1) && ((rd t13.1 0) == 2)) && (t13.2 == 0)) && (t19.2 == 35)) && ((t23.1.length : Int) == 1)) && ((rd t23.1 0) == 2))))⟩, ⟨true, [(71, (.v (.bool (((((((t13.1.length : Int) == 1) && ((rd t13.1 0) == 2)) && (t13.2 == 0)) && (t19.2 == 35)) && ((t23.1.length : Int) == 1)) && ((rd t23.1 0) == 2)))))], (.v (.bool (((((((t13.1.length : Int) == 1) && ((rd t13.1 0) == 2)) && (t13.2 == 0)) && (t19.2 == 35)) && ((t23.1.length : Int) == 1)) && ((rd t23.1 0) == 2))))⟩, It.I ((((((((t13.1.length : Int) == 1) && ((rd t13.1 0) == 2)) && (t13.2 == 0)) && (t19.2 == 35)) && ((t23.1.length : Int) == 1)) && ((rd t23.1 0) == 2)) == true) [(8, (.v (.int .i64 t23.2))), (72, (.v (.bool (((((((t13.1.length : Int) == 1) && ((rd t13.1 0) == 2)) && (t13.2 == 0)) && (t19.2 == 35)) && ((t23.1.length : Int) == 1)) && ((rd t23.1 0) == 2)))))] (.v (.int .i64 t23.2)), It.I ((((((((t13.1.length : Int) == 1) && ((rd t13.1 0) == 2)) && (t13.2 == 0)) && (t19.2 == 35)) && ((t23.1.length : Int) == 1)) && ((rd t23.1 0) == 2)) == true) [(73, (bif ((((((((t13.1.length : Int) == 1) && ((rd t13.1 0) == 2)) && (t13.2 == 0)) && (t19.2 == 35)) && ((t23.1.length : Int) == 1)) && ((rd t23.1 0) == 2)) == true) then (.v (.int .i64 t23.2)) else .v undef)), (72, (.v (.bool (((((((t13.1.length : Int) == 1) && ((rd t13.1 0) == 2)) && (t13.2 == 0)) && (t19.2 == 35)) && ((t23.1.length : Int) == 1)) && ((rd t23.1 0) == 2)))))] (.v (.bool (t23.2 == 0))), ⟨true, [(72, (.v (.bool (((((((t13.1.length : Int) == 1) && ((rd t13.1 0) == 2)) && (t13.2 == 0)) && (t19.2 == 35)) && ((t23.1.length : Int) == 1)) && ((rd t23.1 0) == 2))))), (74, (bif ((((((((t13.1.length : Int) == 1) && ((rd t13.1 0) == 2)) && (t13.2 == 0)) && (t19.2 == 35)) && ((t23.1.length : Int) == 1)) && ((rd t23.1 0) == 2)) == true) then (.v (.bool (t23.2 == 0))) else .v undef))], (.v (.bool ((((((((t13.1.length : Int) == 1) && ((rd t13.1 0) == 2)) && (t13.2 == 0)) && (t19.2 == 35)) && ((t23.1.length : Int) == 1)) && ((rd t23.1 0) == 2)) && (t23.2 == 0))))⟩, ⟨true, [(75, (.v (.bool ((((((((t13.1.length : Int) == 1) && ((rd t13.1 0) == 2)) && (t13.2 == 0)) && (t19.2 == 35)) && ((t23.1.length : Int) == 1)) && ((rd t23.1 0) == 2)) && (t23.2 == 0)))))], (.v (.bool ((((((((t13.1.length : Int) == 1) && ((rd t13.1 0) == 2)) && (t13.2 == 0)) && (t19.2 == 35)) && ((t23.1.length : Int) == 1)) && ((rd t23.1 0) == 2)) && (t23.2 == 0))))⟩, It.I (((((((((t13.1.length : Int) == 1) && ((rd t13.1 0) == 2)) && (t13.2 == 0)) && (t19.2 == 35)) && ((t23.1.length : Int) == 1)) && ((rd t23.1 0) == 2)) && (t23.2 == 0)) == true) [(2, (.bref 2 0)), (76, (.v (.bool ((((((((t13.1.length : Int) == 1) && ((rd t13.1 0) == 2)) && (t13.2 == 0)) && (t19.2 == 35)) && ((t23.1.length : Int) == 1)) && ((rd t23.1 0) == 2)) && (t23.2 == 0)))))] (.agg (e_api_Node t7)), It.I (((((((((t13.1.length : Int) == 1) && ((rd t13.1 0) == 2)) && (t13.2 == 0)) && (t19.2 == 35)) && ((t23.1.length : Int) == 1)) && ((rd t23.1 0) == 2)) && (t23.2 == 0)) == true) [(76, (.v (.bool ((((((((t13.1.length : Int) == 1) && ((rd t13.1 0) == 2)) && (t13.2 == 0)) && (t19.2 == 35)) && ((t23.1.length : Int) == 1)) && ((rd t23.1 0) == 2)) && (t23.2 == 0)))))] (.agg (e_api_Step t40)), It.I (((((((((t13.1.length : Int) == 1) && ((rd t13.1 0) == 2)) && (t13.2 == 0)) && (t19.2 == 35)) && ((t23.1.length : Int) == 1)) && ((rd t23.1 0) == 2)) && (t23.2 == 0)) == true) [(77, (bif (((((((((t13.1.length : Int) == 1) && ((rd t13.1 0) == 2)) && (t13.2 == 0)) && (t19.2 == 35)) && ((t23.1.length : Int) == 1)) && ((rd t23.1 0) == 2)) && (t23.2 == 0)) == true) then (.agg (e_api_Node t7)) else .v undef)), (78, (bif (((((((((t13.1.length : Int) == 1) && ((rd t13.1 0) == 2)) && (t13.2 == 0)) && (t19.2 == 35)) && ((t23.1.length : Int) == 1)) && ((rd t23.1 0) == 2)) && (t23.2 == 0)) == true) then (.agg (e_api_Step t40)) else .v undef)), (76, (.v (.bool ((((((((t13.1.length : Int) == 1) && ((rd t13.1 0) == 2)) && (t13.2 == 0)) && (t19.2 == 35)) && ((t23.1.length : Int) == 1)) && ((rd t23.1 0) == 2)) && (t23.2 == 0)))))] (.v (.bool t42)), ⟨true, [(76, (.v (.bool ((((((((t13.1.length : Int) == 1) && ((rd t13.1 0) == 2)) && (t13.2 == 0)) && (t19.2 == 35)) && ((t23.1.length : Int) == 1)) && ((rd t23.1 0) == 2)) && (t23.2 == 0))))), (79, (bif (((((((((t13.1.length : Int) == 1) && ((rd t13.1 0) == 2)) && (t13.2 == 0)) && (t19.2 == 35)) && ((t23.1.length : Int) == 1)) && ((rd t23.1 0) == 2)) && (t23.2 == 0)) == true) then (.v (.bool t42)) else .v undef))], (.v (.bool (((((((((t13.1.length : Int) == 1) && ((rd t13.1 0) == 2)) && (t13.2 == 0)) && (t19.2 == 35)) && ((t23.1.length : Int) == 1)) && ((rd t23.1 0) == 2)) && (t23.2 == 0)) && t42)))⟩, ⟨true, [(80, (.v (.bool (((((((((t13.1.length : Int) == 1) && ((rd t13.1 0) == 2)) && (t13.2 == 0)) && (t19.2 == 35)) && ((t23.1.length : Int) == 1)) && ((rd t23.1 0) == 2)) && (t23.2 == 0)) && t42))))], (.v (.bool (((((((((t13.1.length : Int) == 1) && ((rd t13.1 0) == 2)) && (t13.2 == 0)) && (t19.2 == 35)) && ((t23.1.length : Int) == 1)) && ((rd t23.1 0) == 2)) && (t23.2 == 0)) && t42)))⟩, It.I ((((((((((t13.1.length : Int) == 1) && ((rd t13.1 0) == 2)) && (t13.2 == 0)) && (t19.2 == 35)) && ((t23.1.length : Int) == 1)) && ((rd t23.1 0) == 2)) && (t23.2 == 0)) && t42) == true) [(2, (.bref 2 0)), (81, (.v (.bool (((((((((t13.1.length : Int) == 1) && ((rd t13.1 0) == 2)) && (t13.2 == 0)) && (t19.2 == 35)) && ((t23.1.length : Int) == 1)) && ((rd t23.1 0) == 2)) && (t23.2 == 0)) && t42))))] (.agg (e_api_Node t7)), It.I ((((((((((t13.1.length : Int) == 1) && ((rd t13.1 0) == 2)) && (t13.2 == 0)) && (t19.2 == 35)) && ((t23.1.length : Int) == 1)) && ((rd t23.1 0) == 2)) && (t23.2 == 0)) && t42) == true) [(81, (.v (.bool (((((((((t13.1.length : Int) == 1) && ((rd t13.1 0) == 2)) && (t13.2 == 0)) && (t19.2 == 35)) && ((t23.1.length : Int) == 1)) && ((rd t23.1 0) == 2)) && (t23.2 == 0)) && t42))))] (.agg (e_api_Step t46)), It.I ((((((((((t13.1.length : Int) == 1) && ((rd t13.1 0) == 2)) && (t13.2 == 0)) && (t19.2 == 35)) && ((t23.1.length : Int) == 1)) && ((rd t23.1 0) == 2)) && (t23.2 == 0)) && t42) == true) [(81, (.v (.bool (((((((((t13.1.length : Int) == 1) && ((rd t13.1 0) == 2)) && (t13.2 == 0)) && (t19.2 == 35)) && ((t23.1.length : Int) == 1)) && ((rd t23.1 0) == 2)) && (t23.2 == 0)) && t42))))] (.agg (e_api_Step t48)), It.I ((((((((((t13.1.length : Int) == 1) && ((rd t13.1 0) == 2)) && (t13.2 == 0)) && (t19.2 == 35)) && ((t23.1.length : Int) == 1)) && ((rd t23.1 0) == 2)) && (t23.2 == 0)) && t42) == true) [(83, (bif ((((((((((t13.1.length : Int) == 1) && ((rd t13.1 0) == 2)) && (t13.2 == 0)) && (t19.2 == 35)) && ((t23.1.length : Int) == 1)) && ((rd t23.1 0) == 2)) && (t23.2 == 0)) && t42) == true) then (.agg (e_api_Step t46)) else .v undef)), (84, (bif ((((((((((t13.1.length : Int) == 1) && ((rd t13.1 0) == 2)) && (t13.2 == 0)) && (t19.2 == 35)) && ((t23.1.length : Int) == 1)) && ((rd t23.1 0) == 2)) && (t23.2 == 0)) && t42) == true) then (.agg (e_api_Step t48)) else .v undef)), (81, (.v (.bool (((((((((t13.1.length : Int) == 1) && ((rd t13.1 0) == 2)) && (t13.2 == 0)) && (t19.2 == 35)) && ((t23.1.length : Int) == 1)) && ((rd t23.1 0) == 2)) && (t23.2 == 0)) && t42))))] (L 9 e_api_Step ([t46, t48] : List T_api_Step)), It.I ((((((((((t13.1.length : Int) == 1) && ((rd t13.1 0) == 2)) && (t13.2 == 0)) && (t19.2 == 35)) && ((t23.1.length : Int) == 1)) && ((rd t23.1 0) == 2)) && (t23.2 == 0)) && t42) == true) [(82, (bif ((((((((((t13.1.length : Int) == 1) && ((rd t13.1 0) == 2)) && (t13.2 == 0)) && (t19.2 == 35)) && ((t23.1.length : Int) == 1)) && ((rd t23.1 0) == 2)) && (t23.2 == 0)) && t42) == true) then (.agg (e_api_Node t7)) else .v undef)), (85, (bif ((((((((((t13.1.length : Int) == 1) && ((rd t13.1 0) == 2)) && (t13.2 == 0)) && (t19.2 == 35)) && ((t23.1.length : Int) == 1)) && ((rd t23.1 0) == 2)) && (t23.2 == 0)) && t42) == true) then (L 9 e_api_Step ([t46, t48] : List T_api_Step)) else .v undef)), (81, (.v (.bool (((((((((t13.1.length : Int) == 1) && ((rd t13.1 0) == 2)) && (t13.2 == 0)) && (t19.2 == 35)) && ((t23.1.length : Int) == 1)) && ((rd t23.1 0) == 2)) && (t23.2 == 0)) && t42))))] (L 1 (eL 1 (eI .i64)) t50), It.I ((((((((((t13.1.length : Int) == 1) && ((rd t13.1 0) == 2)) && (t13.2 == 0)) && (t19.2 == 35)) && ((t23.1.length : Int) == 1)) && ((rd t23.1 0) == 2)) && (t23.2 == 0)) && t42) == true) [(86, (bif ((((((((((t13.1.length : Int) == 1) && ((rd t13.1 0) == 2)) && (t13.2 == 0)) && (t19.2 == 35)) && ((t23.1.length : Int) == 1)) && ((rd t23.1 0) == 2)) && (t23.2 == 0)) && t42) == true) then (L 1 (eL 1 (eI .i64)) t50) else .v undef)), (81, (.v (.bool (((((((((t13.1.length : Int) == 1) && ((rd t13.1 0) == 2)) && (t13.2 == 0)) && (t19.2 == 35)) && ((t23.1.length : Int) == 1)) && ((rd t23.1 0) == 2)) && (t23.2 == 0)) && t42))))] (.v (.int .i64 (t50.length : Int))), It.I ((((((((((t13.1.length : Int) == 1) && ((rd t13.1 0) == 2)) && (t13.2 == 0)) && (t19.2 == 35)) && ((t23.1.length : Int) == 1)) && ((rd t23.1 0) == 2)) && (t23.2 == 0)) && t42) == true) [(87, (bif ((((((((((t13.1.length : Int) == 1) && ((rd t13.1 0) == 2)) && (t13.2 == 0)) && (t19.2 == 35)) && ((t23.1.length : Int) == 1)) && ((rd t23.1 0) == 2)) && (t23.2 == 0)) && t42) == true) then (.v (.int .i64 (t50.length : Int))) else .v undef)), (81, (.v (.bool (((((((((t13.1.length : Int) == 1) && ((rd t13.1 0) == 2)) && (t13.2 == 0)) && (t19.2 == 35)) && ((t23.1.length : Int) == 1)) && ((rd t23.1 0) == 2)) && (t23.2 == 0)) && t42))))] (.v (.bool ((t50.length : Int) == 2))), ⟨true, [(81, (.v (.bool (((((((((t13.1.length : Int) == 1) && ((rd t13.1 0) == 2)) && (t13.2 == 0)) && (t19.2 == 35)) && ((t23.1.length : Int) == 1)) && ((rd t23.1 0) == 2)) && (t23.2 == 0)) && t42)))), (88, (bif ((((((((((t13.1.length : Int) == 1) && ((rd t13.1 0) == 2)) && (t13.2 == 0)) && (t19.2 == 35)) && ((t23.1.length : Int) == 1)) && ((rd t23.1 0) == 2)) && (t23.2 == 0)) && t42) == true) then (.v (.bool ((t50.length : Int) == 2))) else .v undef))], (.v (.bool ((((((((((t13.1.length : Int) == 1) && ((rd t13.1 0) == 2)) && (t13.2 == 0)) && (t19.2 == 35)) && ((t23.1.length : Int) == 1)) && ((rd t23.1 0) == 2)) && (t23.2 == 0)) && t42) && ((t50.length : Int) == 2))))⟩, ⟨true, [(89, (.v (.bool ((((((((((t13.1.length : Int) == 1) && ((rd t13.1 0) == 2)) && (t13.2 == 0)) && (t19.2 == 35)) && ((t23.1.length : Int) == 1)) && ((rd t23.1 0) == 2)) && (t23.2 == 0)) && t42) && ((t50.length : Int) == 2)))))], (.v (.bool ((((((((((t13.1.length : Int) == 1) && ((rd t13.1 0) == 2)) && (t13.2 == 0)) && (t19.2 == 35)) && ((t23.1.length : Int) == 1)) && ((rd t23.1 0) == 2)) && (t23.2 == 0)) && t42) && ((t50.length : Int) == 2))))⟩] [[], [0], [1], [2], [3], [3, 4], [3, 5], [3, 6], [3, 7], [8], [9], [9, 10], [9, 11], [12], [13], [13, 14], [13, 15], [16], [17], [17, 18], [17, 19], [17, 20], [21], [22], [22, 23], [22, 24], [22, 25], [22, 26], [27], [28], [28, 29], [28, 30], [31], [32], [32], [32, 33, 34], [32, 35], [36], [37], [37], [37], [37, 39, 40], [37, 38, 41], [37, 42], [37, 43], [37, 44], [45]] mixed (by kernel_rfl) ?_ ?_
  · refine TxtE.cons rfl ⟨.same _, trivial⟩ rfl (VOk.g (VOk.mv (d := (L 1 (eI .i64) t13.1)) rfl rfl)) ?_
    refine TxtE.cons rfl ⟨.same _, trivial⟩ rfl (VOk.g (VOk.lenL (e := (eI .i64)) (xs := t13.1) rfl Try.underlying39 rfl)) ?_
    refine TxtE.cons rfl ⟨.same _, trivial⟩ rfl (VOk.g (VOk.arith (op := .eql) (k := .i64) (a := (t13.1.length : Int)) (b := 1) rfl rfl rfl rfl)) ?_
    refine TxtE.cons rfl ⟨.same _, trivial⟩ rfl (VOk.g (VOk.mv (d := (.v (.bool ((t13.1.length : Int) == 1)))) rfl rfl)) ?_
    refine TxtE.consI rfl ⟨.same _, .same _, trivial⟩ rfl rfl (.one rfl) (fun hw25 => (VOk.g (VOk.mv (d := (L 1 (eI .i64) t13.1)) rfl rfl))) ?_
    refine TxtE.consI rfl ⟨.same _, .same _, trivial⟩ rfl rfl (.one rfl) (fun hw25 => (GOk.fr (fr' := [(48, (L 1 (eI .i64) t13.1))]) ⟨DLe.of_eq (cT hw25).symm, trivial⟩ (VOk.g (VOk.indexL (sz := 1) (e := (eI .i64)) (xs := t13.1) (i := 0) rfl Try.underlying39 sz3 rfl rfl (c26 hw25))))) ?_
    refine TxtE.consI rfl ⟨.same _, .same _, trivial⟩ rfl rfl (.one rfl) (fun hw25 => (GOk.fr (fr' := [(49, (.fp ((eI .i64) (rd t13.1 0)) 0))]) ⟨DLe.of_eq (cT hw25).symm, trivial⟩ (VOk.g (VOk.loadFp (d := (.v (.int .i64 (rd t13.1 0)))) rfl Try.underlying3 rfl rfl rfl)))) ?_
    refine TxtE.consI rfl ⟨.same _, .same _, trivial⟩ rfl rfl (.one rfl) (fun hw25 => (GOk.fr (fr' := [(50, (.v (.int .i64 (rd t13.1 0))))]) ⟨DLe.of_eq (cT hw25).symm, trivial⟩ (VOk.g (VOk.arith (op := .eql) (k := .i64) (a := (rd t13.1 0)) (b := 2) rfl rfl rfl rfl)))) ?_
    refine TxtE.cons rfl ⟨.same _, .same _, trivial⟩ rfl (VOk.g (VOk.to (VOk.pickI (b := ((t13.1.length : Int) == 1)) (p := ((rd t13.1 0) == 2)) (q := false) rfl rfl (fun hp27 => (cT (t_beq hp27))) (fun hp27 => rfl)) (pickAnd ((t13.1.length : Int) == 1) ((rd t13.1 0) == 2)))) ?_
    refine TxtE.cons rfl ⟨.same _, trivial⟩ rfl (VOk.g (VOk.mv (d := (.v (.bool (((t13.1.length : Int) == 1) && ((rd t13.1 0) == 2))))) rfl rfl)) ?_
    refine TxtE.consI rfl ⟨.same _, .same _, trivial⟩ rfl rfl (.one rfl) (fun hw28 => (VOk.g (VOk.mv (d := (.v (.int .i64 t13.2))) rfl rfl))) ?_
    refine TxtE.consI rfl ⟨.same _, .same _, trivial⟩ rfl rfl (.one rfl) (fun hw28 => (GOk.fr (fr' := [(54, (.v (.int .i64 t13.2)))]) ⟨DLe.of_eq (cT hw28).symm, trivial⟩ (VOk.g (VOk.arith (op := .eql) (k := .i64) (a := t13.2) (b := 0) rfl rfl rfl rfl)))) ?_
    refine TxtE.cons rfl ⟨.same _, .same _, trivial⟩ rfl (VOk.g (VOk.to (VOk.pickI (b := (((t13.1.length : Int) == 1) && ((rd t13.1 0) == 2))) (p := (t13.2 == 0)) (q := false) rfl rfl (fun hp29 => (cT (t_beq hp29))) (fun hp29 => rfl)) (pickAnd (((t13.1.length : Int) == 1) && ((rd t13.1 0) == 2)) (t13.2 == 0)))) ?_
    refine TxtE.cons rfl ⟨.same _, trivial⟩ rfl (VOk.g (VOk.mv (d := (.v (.bool ((((t13.1.length : Int) == 1) && ((rd t13.1 0) == 2)) && (t13.2 == 0))))) rfl rfl)) ?_
    refine TxtE.consI rfl ⟨.same _, .same _, trivial⟩ rfl rfl (.one rfl) (fun hw30 => (VOk.g (VOk.mv (d := (.v (.int .i64 t19.2))) rfl rfl))) ?_
    refine TxtE.consI rfl ⟨.same _, .same _, trivial⟩ rfl rfl (.one rfl) (fun hw30 => (GOk.fr (fr' := [(58, (.v (.int .i64 t19.2)))]) ⟨DLe.of_eq (cT hw30).symm, trivial⟩ (VOk.g (VOk.arith (op := .eql) (k := .i64) (a := t19.2) (b := 35) rfl rfl rfl rfl)))) ?_
    refine TxtE.cons rfl ⟨.same _, .same _, trivial⟩ rfl (VOk.g (VOk.to (VOk.pickI (b := ((((t13.1.length : Int) == 1) && ((rd t13.1 0) == 2)) && (t13.2 == 0))) (p := (t19.2 == 35)) (q := false) rfl rfl (fun hp31 => (cT (t_beq hp31))) (fun hp31 => rfl)) (pickAnd ((((t13.1.length : Int) == 1) && ((rd t13.1 0) == 2)) && (t13.2 == 0)) (t19.2 == 35)))) ?_
    refine TxtE.cons rfl ⟨.same _, trivial⟩ rfl (VOk.g (VOk.mv (d := (.v (.bool (((((t13.1.length : Int) == 1) && ((rd t13.1 0) == 2)) && (t13.2 == 0)) && (t19.2 == 35))))) rfl rfl)) ?_
    refine TxtE.consI rfl ⟨.same _, .same _, trivial⟩ rfl rfl (.one rfl) (fun hw32 => (VOk.g (VOk.mv (d := (L 1 (eI .i64) t23.1)) rfl rfl))) ?_
    refine TxtE.consI rfl ⟨.same _, .same _, trivial⟩ rfl rfl (.one rfl) (fun hw32 => (GOk.fr (fr' := [(62, (L 1 (eI .i64) t23.1))]) ⟨DLe.of_eq (cT hw32).symm, trivial⟩ (VOk.g (VOk.lenL (e := (eI .i64)) (xs := t23.1) rfl Try.underlying39 rfl)))) ?_
    refine TxtE.consI rfl ⟨.same _, .same _, trivial⟩ rfl rfl (.one rfl) (fun hw32 => (GOk.fr (fr' := [(63, (.v (.int .i64 (t23.1.length : Int))))]) ⟨DLe.of_eq (cT hw32).symm, trivial⟩ (VOk.g (VOk.arith (op := .eql) (k := .i64) (a := (t23.1.length : Int)) (b := 1) rfl rfl rfl rfl)))) ?_
    refine TxtE.cons rfl ⟨.same _, .same _, trivial⟩ rfl (VOk.g (VOk.to (VOk.pickI (b := (((((t13.1.length : Int) == 1) && ((rd t13.1 0) == 2)) && (t13.2 == 0)) && (t19.2 == 35))) (p := ((t23.1.length : Int) == 1)) (q := false) rfl rfl (fun hp33 => (cT (t_beq hp33))) (fun hp33 => rfl)) (pickAnd (((((t13.1.length : Int) == 1) && ((rd t13.1 0) == 2)) && (t13.2 == 0)) && (t19.2 == 35)) ((t23.1.length : Int) == 1)))) ?_
    refine TxtE.cons rfl ⟨.same _, trivial⟩ rfl (VOk.g (VOk.mv (d := (.v (.bool ((((((t13.1.length : Int) == 1) && ((rd t13.1 0) == 2)) && (t13.2 == 0)) && (t19.2 == 35)) && ((t23.1.length : Int) == 1))))) rfl rfl)) ?_
    refine TxtE.consI rfl ⟨.same _, .same _, trivial⟩ rfl rfl (.one rfl) (fun hw34 => (VOk.g (VOk.mv (d := (L 1 (eI .i64) t23.1)) rfl rfl))) ?_
    refine TxtE.consI rfl ⟨.same _, .same _, trivial⟩ rfl rfl (.one rfl) (fun hw34 => (GOk.fr (fr' := [(67, (L 1 (eI .i64) t23.1))]) ⟨DLe.of_eq (cT hw34).symm, trivial⟩ (VOk.g (VOk.indexL (sz := 1) (e := (eI .i64)) (xs := t23.1) (i := 0) rfl Try.underlying39 sz3 rfl rfl (c35 hw34))))) ?_
    refine TxtE.consI rfl ⟨.same _, .same _, trivial⟩ rfl rfl (.one rfl) (fun hw34 => (GOk.fr (fr' := [(68, (.fp ((eI .i64) (rd t23.1 0)) 0))]) ⟨DLe.of_eq (cT hw34).symm, trivial⟩ (VOk.g (VOk.loadFp (d := (.v (.int .i64 (rd t23.1 0)))) rfl Try.underlying3 rfl rfl rfl)))) ?_
    refine TxtE.consI rfl ⟨.same _, .same _, trivial⟩ rfl rfl (.one rfl) (fun hw34 => (GOk.fr (fr' := [(69, (.v (.int .i64 (rd t23.1 0))))]) ⟨DLe.of_eq (cT hw34).symm, trivial⟩ (VOk.g (VOk.arith (op := .eql) (k := .i64) (a := (rd t23.1 0)) (b := 2) rfl rfl rfl rfl)))) ?_
    refine TxtE.cons rfl ⟨.same _, .same _, trivial⟩ rfl (VOk.g (VOk.to (VOk.pickI (b := ((((((t13.1.length : Int) == 1) && ((rd t13.1 0) == 2)) && (t13.2 == 0)) && (t19.2 == 35)) && ((t23.1.length : Int) == 1))) (p := ((rd t23.1 0) == 2)) (q := false) rfl rfl (fun hp36 => (cT (t_beq hp36))) (fun hp36 => rfl)) (pickAnd ((((((t13.1.length : Int) == 1) && ((rd t13.1 0) == 2)) && (t13.2 == 0)) && (t19.2 == 35)) && ((t23.1.length : Int) == 1)) ((rd t23.1 0) == 2)))) ?_
    refine TxtE.cons rfl ⟨.same _, trivial⟩ rfl (VOk.g (VOk.mv (d := (.v (.bool (((((((t13.1.length : Int) == 1) && ((rd t13.1 0) == 2)) && (t13.2 == 0)) && (t19.2 == 35)) && ((t23.1.length : Int) == 1)) && ((rd t23.1 0) == 2))))) rfl rfl)) ?_
    refine TxtE.consI rfl ⟨.same _, .same _, trivial⟩ rfl rfl (.one rfl) (fun hw37 => (VOk.g (VOk.mv (d := (.v (.int .i64 t23.2))) rfl rfl))) ?_
    refine TxtE.consI rfl ⟨.same _, .same _, trivial⟩ rfl rfl (.one rfl) (fun hw37 => (GOk.fr (fr' := [(73, (.v (.int .i64 t23.2)))]) ⟨DLe.of_eq (cT hw37).symm, trivial⟩ (VOk.g (VOk.arith (op := .eql) (k := .i64) (a := t23.2) (b := 0) rfl rfl rfl rfl)))) ?_
    refine TxtE.cons rfl ⟨.same _, .same _, trivial⟩ rfl (VOk.g (VOk.to (VOk.pickI (b := (((((((t13.1.length : Int) == 1) && ((rd t13.1 0) == 2)) && (t13.2 == 0)) && (t19.2 == 35)) && ((t23.1.length : Int) == 1)) && ((rd t23.1 0) == 2))) (p := (t23.2 == 0)) (q := false) rfl rfl (fun hp38 => (cT (t_beq hp38))) (fun hp38 => rfl)) (pickAnd (((((((t13.1.length : Int) == 1) && ((rd t13.1 0) == 2)) && (t13.2 == 0)) && (t19.2 == 35)) && ((t23.1.length : Int) == 1)) && ((rd t23.1 0) == 2)) (t23.2 == 0)))) ?_
    refine TxtE.cons rfl ⟨.same _, trivial⟩ rfl (VOk.g (VOk.mv (d := (.v (.bool ((((((((t13.1.length : Int) == 1) && ((rd t13.1 0) == 2)) && (t13.2 == 0)) && (t19.2 == 35)) && ((t23.1.length : Int) == 1)) && ((rd t23.1 0) == 2)) && (t23.2 == 0))))) rfl rfl)) ?_
    refine TxtE.consI rfl ⟨.same _, .same _, trivial⟩ rfl rfl (.one rfl) (fun hw39 => (VOk.g (VOk.to (d' := (.agg (e_api_Node t7))) (.loadBAgg rfl Try.underlying27 rfl sz27 rfl rfl rfl) (congrArg D.agg (e_api_Node_c t7).symm)))) ?_
    refine TxtE.consI rfl ⟨.same _, trivial⟩ rfl rfl (.one rfl) (fun hw39 => (GOk.call rfl rfl cl24 rfl (watchbilllaw12_step.ok (ifT h41 hw39)) rfl)) ?_
    refine TxtE.consI rfl ⟨.same _, .same _, .same _, trivial⟩ rfl rfl (.one rfl) (fun hw39 => (GOk.fr (fr' := [(77, (.agg (e_api_Node t7))), (78, (.agg (e_api_Step t40)))]) ⟨DLe.of_eq (cT hw39).symm, DLe.of_eq (cT hw39).symm, trivial⟩ (GOk.call rfl rfl cl12 rfl (match_Fits.ok (ifT h43 hw39)) rfl))) ?_
    refine TxtE.cons rfl ⟨.same _, .same _, trivial⟩ rfl (VOk.g (VOk.to (VOk.pickI (b := ((((((((t13.1.length : Int) == 1) && ((rd t13.1 0) == 2)) && (t13.2 == 0)) && (t19.2 == 35)) && ((t23.1.length : Int) == 1)) && ((rd t23.1 0) == 2)) && (t23.2 == 0))) (p := t42) (q := false) rfl rfl (fun hp44 => (cT (t_beq hp44))) (fun hp44 => rfl)) (pickAnd ((((((((t13.1.length : Int) == 1) && ((rd t13.1 0) == 2)) && (t13.2 == 0)) && (t19.2 == 35)) && ((t23.1.length : Int) == 1)) && ((rd t23.1 0) == 2)) && (t23.2 == 0)) t42))) ?_
    refine TxtE.cons rfl ⟨.same _, trivial⟩ rfl (VOk.g (VOk.mv (d := (.v (.bool (((((((((t13.1.length : Int) == 1) && ((rd t13.1 0) == 2)) && (t13.2 == 0)) && (t19.2 == 35)) && ((t23.1.length : Int) == 1)) && ((rd t23.1 0) == 2)) && (t23.2 == 0)) && t42)))) rfl rfl)) ?_
    refine TxtE.consI rfl ⟨.same _, .same _, trivial⟩ rfl rfl (.one rfl) (fun hw45 => (VOk.g (VOk.to (d' := (.agg (e_api_Node t7))) (.loadBAgg rfl Try.underlying27 rfl sz27 rfl rfl rfl) (congrArg D.agg (e_api_Node_c t7).symm)))) ?_
    refine TxtE.consI rfl ⟨.same _, trivial⟩ rfl rfl (.one rfl) (fun hw45 => (GOk.call rfl rfl cl24 rfl (watchbilllaw12_step.ok (ifT h47 hw45)) rfl)) ?_
    refine TxtE.consI rfl ⟨.same _, trivial⟩ rfl rfl (.one rfl) (fun hw45 => (GOk.call rfl rfl cl24 rfl (watchbilllaw12_step.ok (ifT h49 hw45)) rfl)) ?_
    refine TxtE.consI rfl ⟨.same _, .same _, .same _, trivial⟩ rfl rfl (.one rfl) (fun hw45 => (GOk.fr (fr' := [(83, (.agg (e_api_Step t46))), (84, (.agg (e_api_Step t48)))]) ⟨DLe.of_eq (cT hw45).symm, DLe.of_eq (cT hw45).symm, trivial⟩ (GOk.to (d' := (L 9 e_api_Step ([t46, t48] : List T_api_Step))) (GOk.lit rfl Try.underlying28 sz30 zs30 rfl rfl rfl rfl) rfl))) ?_
    refine TxtE.consI rfl ⟨.same _, .same _, .same _, trivial⟩ rfl rfl (.one rfl) (fun hw45 => (GOk.fr (fr' := [(82, (.agg (e_api_Node t7))), (85, (L 9 e_api_Step ([t46, t48] : List T_api_Step)))]) ⟨DLe.of_eq (cT hw45).symm, DLe.of_eq (cT hw45).symm, trivial⟩ (GOk.call rfl rfl cl10 rfl (match_Find.ok (ifT h51 hw45)) rfl))) ?_
    refine TxtE.consI rfl ⟨.same _, .same _, trivial⟩ rfl rfl (.one rfl) (fun hw45 => (GOk.fr (fr' := [(86, (L 1 (eL 1 (eI .i64)) t50))]) ⟨DLe.of_eq (cT hw45).symm, trivial⟩ (VOk.g (VOk.lenL (e := (eL 1 (eI .i64))) (xs := t50) rfl Try.underlying34 rfl)))) ?_
    refine TxtE.consI rfl ⟨.same _, .same _, trivial⟩ rfl rfl (.one rfl) (fun hw45 => (GOk.fr (fr' := [(87, (.v (.int .i64 (t50.length : Int))))]) ⟨DLe.of_eq (cT hw45).symm, trivial⟩ (VOk.g (VOk.arith (op := .eql) (k := .i64) (a := (t50.length : Int)) (b := 2) rfl rfl rfl rfl)))) ?_
    refine TxtE.cons rfl ⟨.same _, .same _, trivial⟩ rfl (VOk.g (VOk.to (VOk.pickI (b := (((((((((t13.1.length : Int) == 1) && ((rd t13.1 0) == 2)) && (t13.2 == 0)) && (t19.2 == 35)) && ((t23.1.length : Int) == 1)) && ((rd t23.1 0) == 2)) && (t23.2 == 0)) && t42)) (p := ((t50.length : Int) == 2)) (q := false) rfl rfl (fun hp52 => (cT (t_beq hp52))) (fun hp52 => rfl)) (pickAnd (((((((((t13.1.length : Int) == 1) && ((rd t13.1 0) == 2)) && (t13.2 == 0)) && (t19.2 == 35)) && ((t23.1.length : Int) == 1)) && ((rd t23.1 0) == 2)) && (t23.2 == 0)) && t42) ((t50.length : Int) == 2)))) ?_
    refine TxtE.cons rfl ⟨.same _, trivial⟩ rfl (VOk.g (VOk.asg (d := (.v (.bool ((((((((((t13.1.length : Int) == 1) && ((rd t13.1 0) == 2)) && (t13.2 == 0)) && (t19.2 == 35)) && ((t23.1.length : Int) == 1)) && ((rd t23.1 0) == 2)) && (t23.2 == 0)) && t42) && ((t50.length : Int) == 2))))) rfl rfl)) ?_
    exact .done (.mk ⟨.same _, trivial⟩ trivial)
  refine Ok.le (σ' := ⟨[(0, (.v (.bool ((((((((((t13.1.length : Int) == 1) && ((rd t13.1 0) == 2)) && (t13.2 == 0)) && (t19.2 == 35)) && ((t23.1.length : Int) == 1)) && ((rd t23.1 0) == 2)) && (t23.2 == 0)) && t42) && ((t50.length : Int) == 2)))))], []⟩) (.mk ⟨.same _, trivial⟩ trivial) ?_
  refine Ok.ret ?_
  obtain rfl := Option.some.inj H
  exact ⟨.inl rfl, ⟨_, (.cons (.tmp rfl) .nil), rfl⟩, trivial⟩

/-! watchbill/watchbilllaw04.weigh: function 25 -/
def watchbilllaw04_weigh.l1 (k : Nat) (self : T_api_Node → Int → Option Int) (a1 : Int) : Nat → Int → Str → Str → List T_api_Attr → List T_api_Node → Str → Int → Int → Option Int
  | 0, _, _, _, _, _, _, _, _ => none
  | m39 + 1, y2_0_25, y2_1_26, y2_2_27, y2_3_28, y2_4_29, y2_5_30, x5_23, x7_24 => (if ((decide (x7_24 < (y2_4_29.length : Int))) && (decide (x5_23 ≤ a1))) = true then (if (0 : Int) ≤ x7_24 ∧ x7_24 < (y2_4_29.length : Int) then ((self (rd y2_4_29 x7_24) (IntKind.i64.wrap (a1 - x5_23))).bind fun (t43 : Int) => watchbilllaw04_weigh.l1 k self a1 m39 y2_0_25 y2_1_26 y2_2_27 y2_3_28 y2_4_29 y2_5_30 (IntKind.i64.wrap (x5_23 + t43)) (IntKind.i64.wrap (x7_24 + 1))) else none) else some x5_23)
def watchbilllaw04_weigh.l0 (k : Nat) (self : T_api_Node → Int → Option Int) (a1 : Int) : Nat → Int → Str → Str → List T_api_Attr → List T_api_Node → Str → Int → Int → Option Int
  | 0, _, _, _, _, _, _, _, _ => none
  | m17 + 1, y2_0_3, y2_1_4, y2_2_5, y2_3_6, y2_4_7, y2_5_8, x5_1, x6_2 => (if ((decide (x6_2 < (y2_3_6.length : Int))) && (decide (x5_1 ≤ a1))) = true then (if (0 : Int) ≤ x6_2 ∧ x6_2 < (y2_3_6.length : Int) then (if (0 : Int) ≤ x6_2 ∧ x6_2 < (y2_3_6.length : Int) then (if (0 : Int) ≤ x6_2 ∧ x6_2 < (y2_3_6.length : Int) then watchbilllaw04_weigh.l0 k self a1 m17 y2_0_3 y2_1_4 y2_2_5 y2_3_6 y2_4_7 y2_5_8 (IntKind.i64.wrap ((IntKind.i64.wrap ((IntKind.i64.wrap (x5_1 + (if a1 < ((((rd y2_3_6 x6_2).Name).Space).length : Int) then a1 else ((((rd y2_3_6 x6_2).Name).Space).length : Int)))) + (if a1 < ((((rd y2_3_6 x6_2).Name).Local).length : Int) then a1 else ((((rd y2_3_6 x6_2).Name).Local).length : Int)))) + (if a1 < (((rd y2_3_6 x6_2).Value).length : Int) then a1 else (((rd y2_3_6 x6_2).Value).length : Int)))) (IntKind.i64.wrap (x6_2 + 1)) else none) else none) else none) else watchbilllaw04_weigh.l1 k self a1 k y2_0_3 y2_1_4 y2_2_5 y2_3_6 y2_4_7 y2_5_8 x5_1 0)
def watchbilllaw04_weigh : Nat → T_api_Node → Int → Option Int
  | 0, _, _ => none
  | k + 1, a0, a1 => watchbilllaw04_weigh.l0 k (watchbilllaw04_weigh k) a1 k a0.Kind a0.Name.Space a0.Name.Local a0.Attrs a0.Kids a0.Text (IntKind.i64.wrap ((IntKind.i64.wrap ((IntKind.i64.wrap ((IntKind.i64.wrap (1 + (if a1 < (a0.Text.length : Int) then a1 else (a0.Text.length : Int)))) + (if a1 < (a0.Name.Space.length : Int) then a1 else (a0.Name.Space.length : Int)))) + (if a1 < (a0.Name.Local.length : Int) then a1 else (a0.Name.Local.length : Int)))) + (if a1 < (a0.Attrs.length : Int) then a1 else (a0.Attrs.length : Int)))) 0
theorem watchbilllaw04_weigh.ok {k : Nat} {a0 : T_api_Node} {a1 : Int} {r : Int} (H : watchbilllaw04_weigh k a0 a1 = some r) : Vx.Fn Try.prog 25 [(.agg (e_api_Node a0)), (.v (.int .i64 a1))] [] (.v (.int .i64 r)) [] := by
  induction k generalizing a0 a1 r with
  | zero => exact absurd H (by simp [watchbilllaw04_weigh])
  | succ k ih =>
    unfold watchbilllaw04_weigh at H
    refine Vx.Fn.of_okR Try.func25 rfl (Nat.le_of_ble_eq_true rfl) ?_
    refine Ok.seq ?_
    refine Ok.region (σ' := ⟨[(1, (.v (.int .i64 a1))), (2, (.bref 2 0))], [(2, (.box true [(.v (.int .i64 a0.Kind)), (S a0.Name.Space), (S a0.Name.Local), (L 3 e_api_Attr a0.Attrs), (L 6 e_api_Node a0.Kids), (S a0.Text)]))]⟩) ?_ ?_
    · refine OpsOk.cut (σ := ⟨[(0, (.agg [(.v (.int .i64 a0.Kind)), (S a0.Name.Space), (S a0.Name.Local), (L 3 e_api_Attr a0.Attrs), (L 6 e_api_Node a0.Kids), (S a0.Text)])), (1, (.v (.int .i64 a1)))], []⟩) (.mk ⟨DLe.of_eq (congrArg D.agg (e_api_Node_c _).symm), .same _, trivial⟩ trivial) ?_
      refine OpsOk.cons rfl (OpOk.box 2 (cells := [(.v (.int .i64 a0.Kind)), (S a0.Name.Space), (S a0.Name.Local), (L 3 e_api_Attr a0.Attrs), (L 6 e_api_Node a0.Kids), (S a0.Text)]) rfl rfl rfl rfl) ?_
      refine OpsOk.cons rfl (.v (VOk.asg (d := (.v (.int .i64 0))) rfl rfl) rfl) ?_
      exact .done (.mk ⟨.same _, .same _, trivial⟩ ⟨.same _, trivial⟩)
    refine Ok.seq ?_
    refine Ok.region (σ' := ⟨[(1, (.v (.int .i64 a1))), (2, (.bref 2 0)), (5, (.v (.int .i64 (IntKind.i64.wrap ((IntKind.i64.wrap ((IntKind.i64.wrap ((IntKind.i64.wrap (1 + (if a1 < (a0.Text.length : Int) then a1 else (a0.Text.length : Int)))) + (if a1 < (a0.Name.Space.length : Int) then a1 else (a0.Name.Space.length : Int)))) + (if a1 < (a0.Name.Local.length : Int) then a1 else (a0.Name.Local.length : Int)))) + (if a1 < (a0.Attrs.length : Int) then a1 else (a0.Attrs.length : Int)))))))], [(2, (.box true [(.v (.int .i64 a0.Kind)), (S a0.Name.Space), (S a0.Name.Local), (L 3 e_api_Attr a0.Attrs), (L 6 e_api_Node a0.Kids), (S a0.Text)]))]⟩) ?_ ?_
    · refine OpsOk.cons rfl (.v (VOk.to (VOk.fieldB rfl Try.underlying27 rfl sz9 rfl rfl) rfl) rfl) ?_
      refine OpsOk.cons rfl (.v (VOk.loadB (d := (S a0.Text)) rfl Try.underlying9 rfl rfl rfl rfl) rfl) ?_
      refine OpsOk.cons rfl (.v (VOk.lenStr (s := a0.Text) rfl Try.underlying9 rfl) rfl) ?_
      refine OpsOk.cons rfl (.v (VOk.mv (d := (.v (.int .i64 a1))) rfl rfl) rfl) ?_
      refine OpsOk.cons rfl (.v (VOk.min2 (a := (a0.Text.length : Int)) (b := a1) rfl rfl rfl) rfl) ?_
      refine OpsOk.cons rfl (.v (VOk.arith (op := .add) (k := .i64) (a := 1) (b := (if a1 < (a0.Text.length : Int) then a1 else (a0.Text.length : Int))) rfl rfl rfl rfl) rfl) ?_
      refine OpsOk.cons rfl (.v (VOk.to (VOk.fieldB rfl Try.underlying27 rfl sz23 rfl rfl) rfl) rfl) ?_
      refine OpsOk.cons rfl (.v (VOk.to (VOk.fieldB rfl Try.underlying23 rfl sz9 rfl rfl) rfl) rfl) ?_
      refine OpsOk.cons rfl (.v (VOk.loadB (d := (S a0.Name.Space)) rfl Try.underlying9 rfl rfl rfl rfl) rfl) ?_
      refine OpsOk.cons rfl (.v (VOk.lenStr (s := a0.Name.Space) rfl Try.underlying9 rfl) rfl) ?_
      refine OpsOk.cons rfl (.v (VOk.mv (d := (.v (.int .i64 a1))) rfl rfl) rfl) ?_
      refine OpsOk.cons rfl (.v (VOk.min2 (a := (a0.Name.Space.length : Int)) (b := a1) rfl rfl rfl) rfl) ?_
      refine OpsOk.cons rfl (.v (VOk.arith (op := .add) (k := .i64) (a := (IntKind.i64.wrap (1 + (if a1 < (a0.Text.length : Int) then a1 else (a0.Text.length : Int))))) (b := (if a1 < (a0.Name.Space.length : Int) then a1 else (a0.Name.Space.length : Int))) rfl rfl rfl rfl) rfl) ?_
      refine OpsOk.cons rfl (.v (VOk.to (VOk.fieldB rfl Try.underlying27 rfl sz23 rfl rfl) rfl) rfl) ?_
      refine OpsOk.cons rfl (.v (VOk.to (VOk.fieldB rfl Try.underlying23 rfl sz9 rfl rfl) rfl) rfl) ?_
      refine OpsOk.cons rfl (.v (VOk.loadB (d := (S a0.Name.Local)) rfl Try.underlying9 rfl rfl rfl rfl) rfl) ?_
      refine OpsOk.cons rfl (.v (VOk.lenStr (s := a0.Name.Local) rfl Try.underlying9 rfl) rfl) ?_
      refine OpsOk.cons rfl (.v (VOk.mv (d := (.v (.int .i64 a1))) rfl rfl) rfl) ?_
      refine OpsOk.cons rfl (.v (VOk.min2 (a := (a0.Name.Local.length : Int)) (b := a1) rfl rfl rfl) rfl) ?_
      refine OpsOk.cons rfl (.v (VOk.arith (op := .add) (k := .i64) (a := (IntKind.i64.wrap ((IntKind.i64.wrap (1 + (if a1 < (a0.Text.length : Int) then a1 else (a0.Text.length : Int)))) + (if a1 < (a0.Name.Space.length : Int) then a1 else (a0.Name.Space.length : Int))))) (b := (if a1 < (a0.Name.Local.length : Int) then a1 else (a0.Name.Local.length : Int))) rfl rfl rfl rfl) rfl) ?_
      refine OpsOk.cons rfl (.v (VOk.to (VOk.fieldB rfl Try.underlying27 rfl sz24 rfl rfl) rfl) rfl) ?_
      refine OpsOk.cons rfl (.v (VOk.loadB (d := (L 3 e_api_Attr a0.Attrs)) rfl Try.underlying24 rfl rfl rfl rfl) rfl) ?_
      refine OpsOk.cons rfl (.v (VOk.lenL (e := e_api_Attr) (xs := a0.Attrs) rfl Try.underlying24 rfl) rfl) ?_
      refine OpsOk.cons rfl (.v (VOk.mv (d := (.v (.int .i64 a1))) rfl rfl) rfl) ?_
      refine OpsOk.cons rfl (.v (VOk.min2 (a := (a0.Attrs.length : Int)) (b := a1) rfl rfl rfl) rfl) ?_
      refine OpsOk.cons rfl (.v (VOk.arith (op := .add) (k := .i64) (a := (IntKind.i64.wrap ((IntKind.i64.wrap ((IntKind.i64.wrap (1 + (if a1 < (a0.Text.length : Int) then a1 else (a0.Text.length : Int)))) + (if a1 < (a0.Name.Space.length : Int) then a1 else (a0.Name.Space.length : Int)))) + (if a1 < (a0.Name.Local.length : Int) then a1 else (a0.Name.Local.length : Int))))) (b := (if a1 < (a0.Attrs.length : Int) then a1 else (a0.Attrs.length : Int))) rfl rfl rfl rfl) rfl) ?_
      refine OpsOk.cons rfl (.v (VOk.asg (d := (.v (.int .i64 (IntKind.i64.wrap ((IntKind.i64.wrap ((IntKind.i64.wrap ((IntKind.i64.wrap (1 + (if a1 < (a0.Text.length : Int) then a1 else (a0.Text.length : Int)))) + (if a1 < (a0.Name.Space.length : Int) then a1 else (a0.Name.Space.length : Int)))) + (if a1 < (a0.Name.Local.length : Int) then a1 else (a0.Name.Local.length : Int)))) + (if a1 < (a0.Attrs.length : Int) then a1 else (a0.Attrs.length : Int))))))) rfl rfl) rfl) ?_
      exact .done (.mk ⟨.same _, .same _, .same _, trivial⟩ ⟨.same _, trivial⟩)
    refine Ok.seq ?_
    refine Ok.seq ?_
    refine Ok.region (σ' := ⟨[(1, (.v (.int .i64 a1))), (2, (.bref 2 0)), (5, (.v (.int .i64 (IntKind.i64.wrap ((IntKind.i64.wrap ((IntKind.i64.wrap ((IntKind.i64.wrap (1 + (if a1 < (a0.Text.length : Int) then a1 else (a0.Text.length : Int)))) + (if a1 < (a0.Name.Space.length : Int) then a1 else (a0.Name.Space.length : Int)))) + (if a1 < (a0.Name.Local.length : Int) then a1 else (a0.Name.Local.length : Int)))) + (if a1 < (a0.Attrs.length : Int) then a1 else (a0.Attrs.length : Int))))))), (6, (.v (.int .i64 0)))], [(2, (.box true [(.v (.int .i64 a0.Kind)), (S a0.Name.Space), (S a0.Name.Local), (L 3 e_api_Attr a0.Attrs), (L 6 e_api_Node a0.Kids), (S a0.Text)]))]⟩) ?_ ?_
    · refine OpsOk.cons rfl (.v (VOk.asg (d := (.v (.int .i64 0))) rfl rfl) rfl) ?_
      exact .done (.mk ⟨.same _, .same _, .same _, .same _, trivial⟩ ⟨.same _, trivial⟩)
    refine Ok.block ?_
    refine Ok.le (σ' := ⟨[(1, (.v (.int .i64 a1))), (2, (.bref 2 0)), (5, (.v (.int .i64 (IntKind.i64.wrap ((IntKind.i64.wrap ((IntKind.i64.wrap ((IntKind.i64.wrap (1 + (if a1 < (a0.Text.length : Int) then a1 else (a0.Text.length : Int)))) + (if a1 < (a0.Name.Space.length : Int) then a1 else (a0.Name.Space.length : Int)))) + (if a1 < (a0.Name.Local.length : Int) then a1 else (a0.Name.Local.length : Int)))) + (if a1 < (a0.Attrs.length : Int) then a1 else (a0.Attrs.length : Int))))))), (6, (.v (.int .i64 0)))], [(2, (.box true [(.v (.int .i64 a0.Kind)), (S a0.Name.Space), (S a0.Name.Local), (L 3 e_api_Attr a0.Attrs), (L 6 e_api_Node a0.Kids), (S a0.Text)]))]⟩) (.mk ⟨.same _, .same _, .same _, .same _, trivial⟩ ⟨.same _, trivial⟩) ?_
    refine Ok.loop (fun m17 σ => ∃ (y2_0_3 : Int) (y2_1_4 : Str) (y2_2_5 : Str) (y2_3_6 : List T_api_Attr) (y2_4_7 : List T_api_Node) (y2_5_8 : Str) (x5_1 : Int) (x6_2 : Int), σ = ⟨[(1, (.v (.int .i64 a1))), (2, (.bref 2 0)), (5, (.v (.int .i64 x5_1))), (6, (.v (.int .i64 x6_2)))], [(2, (.box true [(.v (.int .i64 y2_0_3)), (S y2_1_4), (S y2_2_5), (L 3 e_api_Attr y2_3_6), (L 6 e_api_Node y2_4_7), (S y2_5_8)]))]⟩ ∧ watchbilllaw04_weigh.l0 k (watchbilllaw04_weigh k) a1 m17 y2_0_3 y2_1_4 y2_2_5 y2_3_6 y2_4_7 y2_5_8 x5_1 x6_2 = some r) k ⟨a0.Kind, a0.Name.Space, a0.Name.Local, a0.Attrs, a0.Kids, a0.Text, (IntKind.i64.wrap ((IntKind.i64.wrap ((IntKind.i64.wrap ((IntKind.i64.wrap (1 + (if a1 < (a0.Text.length : Int) then a1 else (a0.Text.length : Int)))) + (if a1 < (a0.Name.Space.length : Int) then a1 else (a0.Name.Space.length : Int)))) + (if a1 < (a0.Name.Local.length : Int) then a1 else (a0.Name.Local.length : Int)))) + (if a1 < (a0.Attrs.length : Int) then a1 else (a0.Attrs.length : Int)))), 0, rfl, H⟩ ?_
    rintro m17 σ ⟨y2_0_3, y2_1_4, y2_2_5, y2_3_6, y2_4_7, y2_5_8, x5_1, x6_2, rfl, H⟩
    cases m17 with
    | zero => exact absurd H (by simp [watchbilllaw04_weigh.l0])
    | succ m17 =>
      unfold watchbilllaw04_weigh.l0 at H
      refine Ok.seq ?_
      refine Ok.seq ?_
      refine Ok.region (σ' := ⟨[(1, (.v (.int .i64 a1))), (2, (.bref 2 0)), (5, (.v (.int .i64 x5_1))), (6, (.v (.int .i64 x6_2))), (43, (.v (.bool ((decide (x6_2 < (y2_3_6.length : Int))) && (decide (x5_1 ≤ a1))))))], [(2, (.box true [(.v (.int .i64 y2_0_3)), (S y2_1_4), (S y2_2_5), (L 3 e_api_Attr y2_3_6), (L 6 e_api_Node y2_4_7), (S y2_5_8)]))]⟩) ?_ ?_
      · refine OpsOk.cons rfl (.v (VOk.mv (d := (.v (.int .i64 x6_2))) rfl rfl) rfl) ?_
        refine OpsOk.cons rfl (.v (VOk.to (VOk.fieldB rfl Try.underlying27 rfl sz24 rfl rfl) rfl) rfl) ?_
        refine OpsOk.cons rfl (.v (VOk.loadB (d := (L 3 e_api_Attr y2_3_6)) rfl Try.underlying24 rfl rfl rfl rfl) rfl) ?_
        refine OpsOk.cons rfl (.v (VOk.lenL (e := e_api_Attr) (xs := y2_3_6) rfl Try.underlying24 rfl) rfl) ?_
        refine OpsOk.cons rfl (.v (VOk.arith (op := .lss) (k := .i64) (a := x6_2) (b := (y2_3_6.length : Int)) rfl rfl rfl rfl) rfl) ?_
        refine OpsOk.cons rfl (.v (VOk.mv (d := (.v (.bool (decide (x6_2 < (y2_3_6.length : Int)))))) rfl rfl) rfl) ?_
        refine OpsOk.consI rfl rfl rfl (.one rfl) rfl (fun hw18 => (VOk.g (VOk.mv (d := (.v (.int .i64 x5_1))) rfl rfl))) ?_
        refine OpsOk.consI rfl rfl rfl (.one rfl) rfl (fun hw18 => (VOk.g (VOk.mv (d := (.v (.int .i64 a1))) rfl rfl))) ?_
        refine OpsOk.consI rfl rfl rfl (.one rfl) rfl (fun hw18 => (GOk.fr (fr' := [(40, (.v (.int .i64 x5_1))), (41, (.v (.int .i64 a1)))]) ⟨DLe.of_eq (cT hw18).symm, DLe.of_eq (cT hw18).symm, trivial⟩ (VOk.g (VOk.arith (op := .leq) (k := .i64) (a := x5_1) (b := a1) rfl rfl rfl rfl)))) ?_
        refine OpsOk.cons rfl (.v (VOk.to (VOk.pickI (b := (decide (x6_2 < (y2_3_6.length : Int)))) (p := (decide (x5_1 ≤ a1))) (q := false) rfl rfl (fun hp19 => (cT (t_beq hp19))) (fun hp19 => rfl)) (pickAnd (decide (x6_2 < (y2_3_6.length : Int))) (decide (x5_1 ≤ a1)))) rfl) ?_
        exact .done (.mk ⟨.same _, .same _, .same _, .same _, .same _, trivial⟩ ⟨.same _, trivial⟩)
      refine Ok.test (b := ((decide (x6_2 < (y2_3_6.length : Int))) && (decide (x5_1 ≤ a1)))) rfl (fun hb46 => ?_) (fun hb46 => ?_)
      · replace H := ifT H hb46
        refine Ok.le (σ' := ⟨[(1, (.v (.int .i64 a1))), (2, (.bref 2 0)), (5, (.v (.int .i64 x5_1))), (6, (.v (.int .i64 x6_2)))], [(2, (.box true [(.v (.int .i64 y2_0_3)), (S y2_1_4), (S y2_2_5), (L 3 e_api_Attr y2_3_6), (L 6 e_api_Node y2_4_7), (S y2_5_8)]))]⟩) (.mk ⟨.same _, .same _, .same _, .same _, trivial⟩ ⟨.same _, trivial⟩) ?_
        refine Ok.skip ?_
        refine Ok.seq ?_
        refine Ok.block ?_
        obtain ⟨c20, H⟩ := assertE H
        obtain ⟨c21, H⟩ := assertE H
        obtain ⟨c22, H⟩ := assertE H
        refine Ok.drawE (σ' := ⟨[(1, (.v (.int .i64 a1))), (2, (.bref 2 0)), (5, (.v (.int .i64 (IntKind.i64.wrap ((IntKind.i64.wrap ((IntKind.i64.wrap (x5_1 + (if a1 < ((((rd y2_3_6 x6_2).Name).Space).length : Int) then a1 else ((((rd y2_3_6 x6_2).Name).Space).length : Int)))) + (if a1 < ((((rd y2_3_6 x6_2).Name).Local).length : Int) then a1 else ((((rd y2_3_6 x6_2).Name).Local).length : Int)))) + (if a1 < (((rd y2_3_6 x6_2).Value).length : Int) then a1 else (((rd y2_3_6 x6_2).Value).length : Int))))))), (6, (.v (.int .i64 x6_2)))], [(2, (.box true [(.v (.int .i64 y2_0_3)), (S y2_1_4), (S y2_2_5), (L 3 e_api_Attr y2_3_6), (L 6 e_api_Node y2_4_7), (S y2_5_8)]))]⟩) [⟨true, [(5, (.v (.int .i64 x5_1)))], (.v (.int .i64 x5_1))⟩, ⟨true, [(2, (.bref 2 0))], (.bref 2 3)⟩, ⟨true, [(47, (.bref 2 3))], (L 3 e_api_Attr y2_3_6)⟩, ⟨true, [(6, (.v (.int .i64 x6_2)))], (.v (.int .i64 x6_2))⟩, ⟨true, [(48, (L 3 e_api_Attr y2_3_6)), (49, (.v (.int .i64 x6_2)))], (.fp (e_api_Attr (rd y2_3_6 x6_2)) 0)⟩, ⟨true, [(50, (.fp (e_api_Attr (rd y2_3_6 x6_2)) 0))], (.fp (e_api_Attr (rd y2_3_6 x6_2)) 0)⟩, ⟨true, [(51, (.fp (e_api_Attr (rd y2_3_6 x6_2)) 0))], (.fp (e_api_Attr (rd y2_3_6 x6_2)) 0)⟩, ⟨true, [(52, (.fp (e_api_Attr (rd y2_3_6 x6_2)) 0))], (S (((rd y2_3_6 x6_2).Name).Space))⟩, ⟨true, [(53, (S (((rd y2_3_6 x6_2).Name).Space)))], (.v (.int .i64 ((((rd y2_3_6 x6_2).Name).Space).length : Int)))⟩, ⟨true, [(1, (.v (.int .i64 a1)))], (.v (.int .i64 a1))⟩, ⟨true, [(54, (.v (.int .i64 ((((rd y2_3_6 x6_2).Name).Space).length : Int)))), (55, (.v (.int .i64 a1)))], (.v (.int .i64 (if a1 < ((((rd y2_3_6 x6_2).Name).Space).length : Int) then a1 else ((((rd y2_3_6 x6_2).Name).Space).length : Int))))⟩, ⟨true, [(46, (.v (.int .i64 x5_1))), (56, (.v (.int .i64 (if a1 < ((((rd y2_3_6 x6_2).Name).Space).length : Int) then a1 else ((((rd y2_3_6 x6_2).Name).Space).length : Int)))))], (.v (.int .i64 (IntKind.i64.wrap (x5_1 + (if a1 < ((((rd y2_3_6 x6_2).Name).Space).length : Int) then a1 else ((((rd y2_3_6 x6_2).Name).Space).length : Int))))))⟩, ⟨true, [(2, (.bref 2 0))], (.bref 2 3)⟩, ⟨true, [(58, (.bref 2 3))], (L 3 e_api_Attr y2_3_6)⟩, ⟨true, [(6, (.v (.int .i64 x6_2)))], (.v (.int .i64 x6_2))⟩, ⟨true, [(59, (L 3 e_api_Attr y2_3_6)), (60, (.v (.int .i64 x6_2)))], (.fp (e_api_Attr (rd y2_3_6 x6_2)) 0)⟩, ⟨true, [(61, (.fp (e_api_Attr (rd y2_3_6 x6_2)) 0))], (.fp (e_api_Attr (rd y2_3_6 x6_2)) 0)⟩, ⟨true, [(62, (.fp (e_api_Attr (rd y2_3_6 x6_2)) 0))], (.fp (e_api_Attr (rd y2_3_6 x6_2)) 1)⟩, ⟨true, [(63, (.fp (e_api_Attr (rd y2_3_6 x6_2)) 1))], (S (((rd y2_3_6 x6_2).Name).Local))⟩, ⟨true, [(64, (S (((rd y2_3_6 x6_2).Name).Local)))], (.v (.int .i64 ((((rd y2_3_6 x6_2).Name).Local).length : Int)))⟩, ⟨true, [(1, (.v (.int .i64 a1)))], (.v (.int .i64 a1))⟩, ⟨true, [(65, (.v (.int .i64 ((((rd y2_3_6 x6_2).Name).Local).length : Int)))), (66, (.v (.int .i64 a1)))], (.v (.int .i64 (if a1 < ((((rd y2_3_6 x6_2).Name).Local).length : Int) then a1 else ((((rd y2_3_6 x6_2).Name).Local).length : Int))))⟩, ⟨true, [(57, (.v (.int .i64 (IntKind.i64.wrap (x5_1 + (if a1 < ((((rd y2_3_6 x6_2).Name).Space).length : Int) then a1 else ((((rd y2_3_6 x6_2).Name).Space).length : Int))))))), (67, (.v (.int .i64 (if a1 < ((((rd y2_3_6 x6_2).Name).Local).length : Int) then a1 else ((((rd y2_3_6 x6_2).Name).Local).length : Int)))))], (.v (.int .i64 (IntKind.i64.wrap ((IntKind.i64.wrap (x5_1 + (if a1 < ((((rd y2_3_6 x6_2).Name).Space).length : Int) then a1 else ((((rd y2_3_6 x6_2).Name).Space).length : Int)))) + (if a1 < ((((rd y2_3_6 x6_2).Name).Local).length : Int) then a1 else ((((rd y2_3_6 x6_2).Name).Local).length : Int))))))⟩, ⟨true, [(2, (.bref 2 0))], (.bref 2 3)⟩, ⟨true, [(69, (.bref 2 3))], (L 3 e_api_Attr y2_3_6)⟩, ⟨true, [(6, (.v (.int .i64 x6_2)))], (.v (.int .i64 x6_2))⟩, ⟨true, [(70, (L 3 e_api_Attr y2_3_6)), (71, (.v (.int .i64 x6_2)))], (.fp (e_api_Attr (rd y2_3_6 x6_2)) 0)⟩, ⟨true, [(72, (.fp (e_api_Attr (rd y2_3_6 x6_2)) 0))], (.fp (e_api_Attr (rd y2_3_6 x6_2)) 2)⟩, ⟨true, [(73, (.fp (e_api_Attr (rd y2_3_6 x6_2)) 2))], (S ((rd y2_3_6 x6_2).Value))⟩, ⟨true, [(74, (S ((rd y2_3_6 x6_2).Value)))], (.v (.int .i64 (((rd y2_3_6 x6_2).Value).length : Int)))⟩, ⟨true, [(1, (.v (.int .i64 a1)))], (.v (.int .i64 a1))⟩, ⟨true, [(75, (.v (.int .i64 (((rd y2_3_6 x6_2).Value).length : Int)))), (76, (.v (.int .i64 a1)))], (.v (.int .i64 (if a1 < (((rd y2_3_6 x6_2).Value).length : Int) then a1 else (((rd y2_3_6 x6_2).Value).length : Int))))⟩, ⟨true, [(68, (.v (.int .i64 (IntKind.i64.wrap ((IntKind.i64.wrap (x5_1 + (if a1 < ((((rd y2_3_6 x6_2).Name).Space).length : Int) then a1 else ((((rd y2_3_6 x6_2).Name).Space).length : Int)))) + (if a1 < ((((rd y2_3_6 x6_2).Name).Local).length : Int) then a1 else ((((rd y2_3_6 x6_2).Name).Local).length : Int))))))), (77, (.v (.int .i64 (if a1 < (((rd y2_3_6 x6_2).Value).length : Int) then a1 else (((rd y2_3_6 x6_2).Value).length : Int)))))], (.v (.int .i64 (IntKind.i64.wrap ((IntKind.i64.wrap ((IntKind.i64.wrap (x5_1 + (if a1 < ((((rd y2_3_6 x6_2).Name).Space).length : Int) then a1 else ((((rd y2_3_6 x6_2).Name).Space).length : Int)))) + (if a1 < ((((rd y2_3_6 x6_2).Name).Local).length : Int) then a1 else ((((rd y2_3_6 x6_2).Name).Local).length : Int)))) + (if a1 < (((rd y2_3_6 x6_2).Value).length : Int) then a1 else (((rd y2_3_6 x6_2).Value).length : Int))))))⟩, ⟨true, [(78, (.v (.int .i64 (IntKind.i64.wrap ((IntKind.i64.wrap ((IntKind.i64.wrap (x5_1 + (if a1 < ((((rd y2_3_6 x6_2).Name).Space).length : Int) then a1 else ((((rd y2_3_6 x6_2).Name).Space).length : Int)))) + (if a1 < ((((rd y2_3_6 x6_2).Name).Local).length : Int) then a1 else ((((rd y2_3_6 x6_2).Name).Local).length : Int)))) + (if a1 < (((rd y2_3_6 x6_2).Value).length : Int) then a1 else (((rd y2_3_6 x6_2).Value).length : Int)))))))], (.v (.int .i64 (IntKind.i64.wrap ((IntKind.i64.wrap ((IntKind.i64.wrap (x5_1 + (if a1 < ((((rd y2_3_6 x6_2).Name).Space).length : Int) then a1 else ((((rd y2_3_6 x6_2).Name).Space).length : Int)))) + (if a1 < ((((rd y2_3_6 x6_2).Name).Local).length : Int) then a1 else ((((rd y2_3_6 x6_2).Name).Local).length : Int)))) + (if a1 < (((rd y2_3_6 x6_2).Value).length : Int) then a1 else (((rd y2_3_6 x6_2).Value).length : Int))))))⟩] [[], [], [1], [], [2, 3], [4], [5], [6], [7], [], [8, 9], [0, 10], [], [12], [], [13, 14], [15], [16], [17], [18], [], [19, 20], [11, 21], [], [23], [], [24, 25], [26], [27], [28], [], [29, 30], [22, 31], [0, 32]] mixed (by kernel_rfl) ?_ ?_
        · refine TxtE.cons rfl ⟨.same _, trivial⟩ rfl (VOk.g (VOk.mv (d := (.v (.int .i64 x5_1))) rfl rfl)) ?_
          refine TxtE.cons rfl ⟨.same _, trivial⟩ rfl (VOk.g (VOk.to (VOk.fieldB rfl Try.underlying27 rfl sz24 rfl rfl) rfl)) ?_
          refine TxtE.cons rfl ⟨.same _, trivial⟩ rfl (VOk.g (VOk.loadB (d := (L 3 e_api_Attr y2_3_6)) rfl Try.underlying24 rfl rfl rfl rfl)) ?_
          refine TxtE.cons rfl ⟨.same _, trivial⟩ rfl (VOk.g (VOk.mv (d := (.v (.int .i64 x6_2))) rfl rfl)) ?_
          refine TxtE.cons rfl ⟨.same _, .same _, trivial⟩ rfl (VOk.g (VOk.indexL (sz := 3) (e := e_api_Attr) (xs := y2_3_6) (i := x6_2) rfl Try.underlying24 sz56 rfl rfl c20)) ?_
          refine TxtE.cons rfl ⟨.same _, trivial⟩ rfl (VOk.g (VOk.to (VOk.fieldFp rfl Try.underlying56 rfl sz23 rfl) rfl)) ?_
          refine TxtE.cons rfl ⟨.same _, trivial⟩ rfl (VOk.g (VOk.to (VOk.fieldFp rfl Try.underlying23 rfl sz9 rfl) rfl)) ?_
          refine TxtE.cons rfl ⟨.same _, trivial⟩ rfl (VOk.g (VOk.loadFp (d := (S (((rd y2_3_6 x6_2).Name).Space))) rfl Try.underlying9 rfl rfl rfl)) ?_
          refine TxtE.cons rfl ⟨.same _, trivial⟩ rfl (VOk.g (VOk.lenStr (s := ((rd y2_3_6 x6_2).Name).Space) rfl Try.underlying9 rfl)) ?_
          refine TxtE.cons rfl ⟨.same _, trivial⟩ rfl (VOk.g (VOk.mv (d := (.v (.int .i64 a1))) rfl rfl)) ?_
          refine TxtE.cons rfl ⟨.same _, .same _, trivial⟩ rfl (VOk.g (VOk.min2 (a := ((((rd y2_3_6 x6_2).Name).Space).length : Int)) (b := a1) rfl rfl rfl)) ?_
          refine TxtE.cons rfl ⟨.same _, .same _, trivial⟩ rfl (VOk.g (VOk.arith (op := .add) (k := .i64) (a := x5_1) (b := (if a1 < ((((rd y2_3_6 x6_2).Name).Space).length : Int) then a1 else ((((rd y2_3_6 x6_2).Name).Space).length : Int))) rfl rfl rfl rfl)) ?_
          refine TxtE.cons rfl ⟨.same _, trivial⟩ rfl (VOk.g (VOk.to (VOk.fieldB rfl Try.underlying27 rfl sz24 rfl rfl) rfl)) ?_
          refine TxtE.cons rfl ⟨.same _, trivial⟩ rfl (VOk.g (VOk.loadB (d := (L 3 e_api_Attr y2_3_6)) rfl Try.underlying24 rfl rfl rfl rfl)) ?_
          refine TxtE.cons rfl ⟨.same _, trivial⟩ rfl (VOk.g (VOk.mv (d := (.v (.int .i64 x6_2))) rfl rfl)) ?_
          refine TxtE.cons rfl ⟨.same _, .same _, trivial⟩ rfl (VOk.g (VOk.indexL (sz := 3) (e := e_api_Attr) (xs := y2_3_6) (i := x6_2) rfl Try.underlying24 sz56 rfl rfl c21)) ?_
          refine TxtE.cons rfl ⟨.same _, trivial⟩ rfl (VOk.g (VOk.to (VOk.fieldFp rfl Try.underlying56 rfl sz23 rfl) rfl)) ?_
          refine TxtE.cons rfl ⟨.same _, trivial⟩ rfl (VOk.g (VOk.to (VOk.fieldFp rfl Try.underlying23 rfl sz9 rfl) rfl)) ?_
          refine TxtE.cons rfl ⟨.same _, trivial⟩ rfl (VOk.g (VOk.loadFp (d := (S (((rd y2_3_6 x6_2).Name).Local))) rfl Try.underlying9 rfl rfl rfl)) ?_
          refine TxtE.cons rfl ⟨.same _, trivial⟩ rfl (VOk.g (VOk.lenStr (s := ((rd y2_3_6 x6_2).Name).Local) rfl Try.underlying9 rfl)) ?_
          refine TxtE.cons rfl ⟨.same _, trivial⟩ rfl (VOk.g (VOk.mv (d := (.v (.int .i64 a1))) rfl rfl)) ?_
          refine TxtE.cons rfl ⟨.same _, .same _, trivial⟩ rfl (VOk.g (VOk.min2 (a := ((((rd y2_3_6 x6_2).Name).Local).length : Int)) (b := a1) rfl rfl rfl)) ?_
          refine TxtE.cons rfl ⟨.same _, .same _, trivial⟩ rfl (VOk.g (VOk.arith (op := .add) (k := .i64) (a := (IntKind.i64.wrap (x5_1 + (if a1 < ((((rd y2_3_6 x6_2).Name).Space).length : Int) then a1 else ((((rd y2_3_6 x6_2).Name).Space).length : Int))))) (b := (if a1 < ((((rd y2_3_6 x6_2).Name).Local).length : Int) then a1 else ((((rd y2_3_6 x6_2).Name).Local).length : Int))) rfl rfl rfl rfl)) ?_
          refine TxtE.cons rfl ⟨.same _, trivial⟩ rfl (VOk.g (VOk.to (VOk.fieldB rfl Try.underlying27 rfl sz24 rfl rfl) rfl)) ?_
          refine TxtE.cons rfl ⟨.same _, trivial⟩ rfl (VOk.g (VOk.loadB (d := (L 3 e_api_Attr y2_3_6)) rfl Try.underlying24 rfl rfl rfl rfl)) ?_
          refine TxtE.cons rfl ⟨.same _, trivial⟩ rfl (VOk.g (VOk.mv (d := (.v (.int .i64 x6_2))) rfl rfl)) ?_
          refine TxtE.cons rfl ⟨.same _, .same _, trivial⟩ rfl (VOk.g (VOk.indexL (sz := 3) (e := e_api_Attr) (xs := y2_3_6) (i := x6_2) rfl Try.underlying24 sz56 rfl rfl c22)) ?_
          refine TxtE.cons rfl ⟨.same _, trivial⟩ rfl (VOk.g (VOk.to (VOk.fieldFp rfl Try.underlying56 rfl sz9 rfl) rfl)) ?_
          refine TxtE.cons rfl ⟨.same _, trivial⟩ rfl (VOk.g (VOk.loadFp (d := (S ((rd y2_3_6 x6_2).Value))) rfl Try.underlying9 rfl rfl rfl)) ?_
          refine TxtE.cons rfl ⟨.same _, trivial⟩ rfl (VOk.g (VOk.lenStr (s := (rd y2_3_6 x6_2).Value) rfl Try.underlying9 rfl)) ?_
          refine TxtE.cons rfl ⟨.same _, trivial⟩ rfl (VOk.g (VOk.mv (d := (.v (.int .i64 a1))) rfl rfl)) ?_
          refine TxtE.cons rfl ⟨.same _, .same _, trivial⟩ rfl (VOk.g (VOk.min2 (a := (((rd y2_3_6 x6_2).Value).length : Int)) (b := a1) rfl rfl rfl)) ?_
          refine TxtE.cons rfl ⟨.same _, .same _, trivial⟩ rfl (VOk.g (VOk.arith (op := .add) (k := .i64) (a := (IntKind.i64.wrap ((IntKind.i64.wrap (x5_1 + (if a1 < ((((rd y2_3_6 x6_2).Name).Space).length : Int) then a1 else ((((rd y2_3_6 x6_2).Name).Space).length : Int)))) + (if a1 < ((((rd y2_3_6 x6_2).Name).Local).length : Int) then a1 else ((((rd y2_3_6 x6_2).Name).Local).length : Int))))) (b := (if a1 < (((rd y2_3_6 x6_2).Value).length : Int) then a1 else (((rd y2_3_6 x6_2).Value).length : Int))) rfl rfl rfl rfl)) ?_
          refine TxtE.cons rfl ⟨.same _, trivial⟩ rfl (VOk.g (VOk.asg (d := (.v (.int .i64 (IntKind.i64.wrap ((IntKind.i64.wrap ((IntKind.i64.wrap (x5_1 + (if a1 < ((((rd y2_3_6 x6_2).Name).Space).length : Int) then a1 else ((((rd y2_3_6 x6_2).Name).Space).length : Int)))) + (if a1 < ((((rd y2_3_6 x6_2).Name).Local).length : Int) then a1 else ((((rd y2_3_6 x6_2).Name).Local).length : Int)))) + (if a1 < (((rd y2_3_6 x6_2).Value).length : Int) then a1 else (((rd y2_3_6 x6_2).Value).length : Int))))))) rfl rfl)) ?_
          exact .done (.mk ⟨.same _, .same _, .same _, .same _, trivial⟩ ⟨.same _, trivial⟩)
        refine Ok.region (σ' := ⟨[(1, (.v (.int .i64 a1))), (2, (.bref 2 0)), (5, (.v (.int .i64 (IntKind.i64.wrap ((IntKind.i64.wrap ((IntKind.i64.wrap (x5_1 + (if a1 < ((((rd y2_3_6 x6_2).Name).Space).length : Int) then a1 else ((((rd y2_3_6 x6_2).Name).Space).length : Int)))) + (if a1 < ((((rd y2_3_6 x6_2).Name).Local).length : Int) then a1 else ((((rd y2_3_6 x6_2).Name).Local).length : Int)))) + (if a1 < (((rd y2_3_6 x6_2).Value).length : Int) then a1 else (((rd y2_3_6 x6_2).Value).length : Int))))))), (6, (.v (.int .i64 (IntKind.i64.wrap (x6_2 + 1)))))], [(2, (.box true [(.v (.int .i64 y2_0_3)), (S y2_1_4), (S y2_2_5), (L 3 e_api_Attr y2_3_6), (L 6 e_api_Node y2_4_7), (S y2_5_8)]))]⟩) ?_ ?_
        · refine OpsOk.cons rfl (.v (VOk.mv (d := (.v (.int .i64 x6_2))) rfl rfl) rfl) ?_
          refine OpsOk.cons rfl (.v (VOk.arith (op := .add) (k := .i64) (a := x6_2) (b := 1) rfl rfl rfl rfl) rfl) ?_
          refine OpsOk.cons rfl (.v (VOk.asg (d := (.v (.int .i64 (IntKind.i64.wrap (x6_2 + 1))))) rfl rfl) rfl) ?_
          exact .done (.mk ⟨.same _, .same _, .same _, .same _, trivial⟩ ⟨.same _, trivial⟩)
        exact ⟨m17, Nat.lt_succ_self m17, y2_0_3, y2_1_4, y2_2_5, y2_3_6, y2_4_7, y2_5_8, (IntKind.i64.wrap ((IntKind.i64.wrap ((IntKind.i64.wrap (x5_1 + (if a1 < ((((rd y2_3_6 x6_2).Name).Space).length : Int) then a1 else ((((rd y2_3_6 x6_2).Name).Space).length : Int)))) + (if a1 < ((((rd y2_3_6 x6_2).Name).Local).length : Int) then a1 else ((((rd y2_3_6 x6_2).Name).Local).length : Int)))) + (if a1 < (((rd y2_3_6 x6_2).Value).length : Int) then a1 else (((rd y2_3_6 x6_2).Value).length : Int)))), (IntKind.i64.wrap (x6_2 + 1)), rfl, H⟩
      · replace H := ifF H hb46
        refine Ok.le (σ' := ⟨[(1, (.v (.int .i64 a1))), (2, (.bref 2 0)), (5, (.v (.int .i64 x5_1)))], [(2, (.box true [(.v (.int .i64 y2_0_3)), (S y2_1_4), (S y2_2_5), (L 3 e_api_Attr y2_3_6), (L 6 e_api_Node y2_4_7), (S y2_5_8)]))]⟩) (.mk ⟨.same _, .same _, .same _, trivial⟩ ⟨.same _, trivial⟩) ?_
        refine Ok.exit ?_
        refine Ok.seq ?_
        refine Ok.seq ?_
        refine Ok.region (σ' := ⟨[(1, (.v (.int .i64 a1))), (2, (.bref 2 0)), (5, (.v (.int .i64 x5_1))), (7, (.v (.int .i64 0)))], [(2, (.box true [(.v (.int .i64 y2_0_3)), (S y2_1_4), (S y2_2_5), (L 3 e_api_Attr y2_3_6), (L 6 e_api_Node y2_4_7), (S y2_5_8)]))]⟩) ?_ ?_
        · refine OpsOk.cons rfl (.v (VOk.asg (d := (.v (.int .i64 0))) rfl rfl) rfl) ?_
          exact .done (.mk ⟨.same _, .same _, .same _, .same _, trivial⟩ ⟨.same _, trivial⟩)
        refine Ok.block ?_
        refine Ok.le (σ' := ⟨[(1, (.v (.int .i64 a1))), (2, (.bref 2 0)), (5, (.v (.int .i64 x5_1))), (7, (.v (.int .i64 0)))], [(2, (.box true [(.v (.int .i64 y2_0_3)), (S y2_1_4), (S y2_2_5), (L 3 e_api_Attr y2_3_6), (L 6 e_api_Node y2_4_7), (S y2_5_8)]))]⟩) (.mk ⟨.same _, .same _, .same _, .same _, trivial⟩ ⟨.same _, trivial⟩) ?_
        refine Ok.loop (fun m39 σ => ∃ (y2_0_25 : Int) (y2_1_26 : Str) (y2_2_27 : Str) (y2_3_28 : List T_api_Attr) (y2_4_29 : List T_api_Node) (y2_5_30 : Str) (x5_23 : Int) (x7_24 : Int), σ = ⟨[(1, (.v (.int .i64 a1))), (2, (.bref 2 0)), (5, (.v (.int .i64 x5_23))), (7, (.v (.int .i64 x7_24)))], [(2, (.box true [(.v (.int .i64 y2_0_25)), (S y2_1_26), (S y2_2_27), (L 3 e_api_Attr y2_3_28), (L 6 e_api_Node y2_4_29), (S y2_5_30)]))]⟩ ∧ watchbilllaw04_weigh.l1 k (watchbilllaw04_weigh k) a1 m39 y2_0_25 y2_1_26 y2_2_27 y2_3_28 y2_4_29 y2_5_30 x5_23 x7_24 = some r) k ⟨y2_0_3, y2_1_4, y2_2_5, y2_3_6, y2_4_7, y2_5_8, x5_1, 0, rfl, H⟩ ?_
        rintro m39 σ ⟨y2_0_25, y2_1_26, y2_2_27, y2_3_28, y2_4_29, y2_5_30, x5_23, x7_24, rfl, H⟩
        cases m39 with
        | zero => exact absurd H (by simp [watchbilllaw04_weigh.l1])
        | succ m39 =>
          unfold watchbilllaw04_weigh.l1 at H
          refine Ok.seq ?_
          refine Ok.seq ?_
          refine Ok.region (σ' := ⟨[(1, (.v (.int .i64 a1))), (2, (.bref 2 0)), (5, (.v (.int .i64 x5_23))), (7, (.v (.int .i64 x7_24))), (88, (.v (.bool ((decide (x7_24 < (y2_4_29.length : Int))) && (decide (x5_23 ≤ a1))))))], [(2, (.box true [(.v (.int .i64 y2_0_25)), (S y2_1_26), (S y2_2_27), (L 3 e_api_Attr y2_3_28), (L 6 e_api_Node y2_4_29), (S y2_5_30)]))]⟩) ?_ ?_
          · refine OpsOk.cons rfl (.v (VOk.mv (d := (.v (.int .i64 x7_24))) rfl rfl) rfl) ?_
            refine OpsOk.cons rfl (.v (VOk.to (VOk.fieldB rfl Try.underlying27 rfl sz25 rfl rfl) rfl) rfl) ?_
            refine OpsOk.cons rfl (.v (VOk.loadB (d := (L 6 e_api_Node y2_4_29)) rfl Try.underlying25 rfl rfl rfl rfl) rfl) ?_
            refine OpsOk.cons rfl (.v (VOk.lenL (e := e_api_Node) (xs := y2_4_29) rfl Try.underlying25 rfl) rfl) ?_
            refine OpsOk.cons rfl (.v (VOk.arith (op := .lss) (k := .i64) (a := x7_24) (b := (y2_4_29.length : Int)) rfl rfl rfl rfl) rfl) ?_
            refine OpsOk.cons rfl (.v (VOk.mv (d := (.v (.bool (decide (x7_24 < (y2_4_29.length : Int)))))) rfl rfl) rfl) ?_
            refine OpsOk.consI rfl rfl rfl (.one rfl) rfl (fun hw40 => (VOk.g (VOk.mv (d := (.v (.int .i64 x5_23))) rfl rfl))) ?_
            refine OpsOk.consI rfl rfl rfl (.one rfl) rfl (fun hw40 => (VOk.g (VOk.mv (d := (.v (.int .i64 a1))) rfl rfl))) ?_
            refine OpsOk.consI rfl rfl rfl (.one rfl) rfl (fun hw40 => (GOk.fr (fr' := [(85, (.v (.int .i64 x5_23))), (86, (.v (.int .i64 a1)))]) ⟨DLe.of_eq (cT hw40).symm, DLe.of_eq (cT hw40).symm, trivial⟩ (VOk.g (VOk.arith (op := .leq) (k := .i64) (a := x5_23) (b := a1) rfl rfl rfl rfl)))) ?_
            refine OpsOk.cons rfl (.v (VOk.to (VOk.pickI (b := (decide (x7_24 < (y2_4_29.length : Int)))) (p := (decide (x5_23 ≤ a1))) (q := false) rfl rfl (fun hp41 => (cT (t_beq hp41))) (fun hp41 => rfl)) (pickAnd (decide (x7_24 < (y2_4_29.length : Int))) (decide (x5_23 ≤ a1)))) rfl) ?_
            exact .done (.mk ⟨.same _, .same _, .same _, .same _, .same _, trivial⟩ ⟨.same _, trivial⟩)
          refine Ok.test (b := ((decide (x7_24 < (y2_4_29.length : Int))) && (decide (x5_23 ≤ a1)))) rfl (fun hb45 => ?_) (fun hb45 => ?_)
          · replace H := ifT H hb45
            refine Ok.le (σ' := ⟨[(1, (.v (.int .i64 a1))), (2, (.bref 2 0)), (5, (.v (.int .i64 x5_23))), (7, (.v (.int .i64 x7_24)))], [(2, (.box true [(.v (.int .i64 y2_0_25)), (S y2_1_26), (S y2_2_27), (L 3 e_api_Attr y2_3_28), (L 6 e_api_Node y2_4_29), (S y2_5_30)]))]⟩) (.mk ⟨.same _, .same _, .same _, .same _, trivial⟩ ⟨.same _, trivial⟩) ?_
            refine Ok.skip ?_
            refine Ok.seq ?_
            refine Ok.block ?_
            obtain ⟨c42, H⟩ := assertE H
            obtain ⟨t43, h44, H⟩ := bindE H
            refine Ok.region (σ' := ⟨[(1, (.v (.int .i64 a1))), (2, (.bref 2 0)), (5, (.v (.int .i64 (IntKind.i64.wrap (x5_23 + t43))))), (7, (.v (.int .i64 x7_24)))], [(2, (.box true [(.v (.int .i64 y2_0_25)), (S y2_1_26), (S y2_2_27), (L 3 e_api_Attr y2_3_28), (L 6 e_api_Node y2_4_29), (S y2_5_30)]))]⟩) ?_ ?_
            · refine OpsOk.cons rfl (.v (VOk.mv (d := (.v (.int .i64 x5_23))) rfl rfl) rfl) ?_
              refine OpsOk.cons rfl (.v (VOk.to (VOk.fieldB rfl Try.underlying27 rfl sz25 rfl rfl) rfl) rfl) ?_
              refine OpsOk.cons rfl (.v (VOk.loadB (d := (L 6 e_api_Node y2_4_29)) rfl Try.underlying25 rfl rfl rfl rfl) rfl) ?_
              refine OpsOk.cons rfl (.v (VOk.mv (d := (.v (.int .i64 x7_24))) rfl rfl) rfl) ?_
              refine OpsOk.cons rfl (.v (VOk.indexL (sz := 6) (e := e_api_Node) (xs := y2_4_29) (i := x7_24) rfl Try.underlying25 sz27 rfl rfl c42) rfl) ?_
              refine OpsOk.cons rfl (.v (VOk.to (d' := (.agg (e_api_Node (rd y2_4_29 x7_24)))) (.loadFpAgg rfl Try.underlying27 rfl sz27 rfl rfl) rfl) rfl) ?_
              refine OpsOk.cons rfl (.v (VOk.mv (d := (.v (.int .i64 a1))) rfl rfl) rfl) ?_
              refine OpsOk.cons rfl (.v (VOk.mv (d := (.v (.int .i64 x5_23))) rfl rfl) rfl) ?_
              refine OpsOk.cons rfl (.v (VOk.arith (op := .sub) (k := .i64) (a := a1) (b := x5_23) rfl rfl rfl rfl) rfl) ?_
              refine OpsOk.cons rfl (.g (GOk.call rfl rfl cl25 rfl (@ih _ _ _ h44) rfl) rfl) ?_
              refine OpsOk.cons rfl (.v (VOk.arith (op := .add) (k := .i64) (a := x5_23) (b := t43) rfl rfl rfl rfl) rfl) ?_
              refine OpsOk.cons rfl (.v (VOk.asg (d := (.v (.int .i64 (IntKind.i64.wrap (x5_23 + t43))))) rfl rfl) rfl) ?_
              exact .done (.mk ⟨.same _, .same _, .same _, .same _, trivial⟩ ⟨.same _, trivial⟩)
            refine Ok.region (σ' := ⟨[(1, (.v (.int .i64 a1))), (2, (.bref 2 0)), (5, (.v (.int .i64 (IntKind.i64.wrap (x5_23 + t43))))), (7, (.v (.int .i64 (IntKind.i64.wrap (x7_24 + 1)))))], [(2, (.box true [(.v (.int .i64 y2_0_25)), (S y2_1_26), (S y2_2_27), (L 3 e_api_Attr y2_3_28), (L 6 e_api_Node y2_4_29), (S y2_5_30)]))]⟩) ?_ ?_
            · refine OpsOk.cons rfl (.v (VOk.mv (d := (.v (.int .i64 x7_24))) rfl rfl) rfl) ?_
              refine OpsOk.cons rfl (.v (VOk.arith (op := .add) (k := .i64) (a := x7_24) (b := 1) rfl rfl rfl rfl) rfl) ?_
              refine OpsOk.cons rfl (.v (VOk.asg (d := (.v (.int .i64 (IntKind.i64.wrap (x7_24 + 1))))) rfl rfl) rfl) ?_
              exact .done (.mk ⟨.same _, .same _, .same _, .same _, trivial⟩ ⟨.same _, trivial⟩)
            exact ⟨m39, Nat.lt_succ_self m39, y2_0_25, y2_1_26, y2_2_27, y2_3_28, y2_4_29, y2_5_30, (IntKind.i64.wrap (x5_23 + t43)), (IntKind.i64.wrap (x7_24 + 1)), rfl, H⟩
          · replace H := ifF H hb45
            refine Ok.le (σ' := ⟨[(5, (.v (.int .i64 x5_23)))], []⟩) (.mk ⟨.same _, trivial⟩ trivial) ?_
            refine Ok.exit ?_
            refine Ok.seq ?_
            refine Ok.region (σ' := ⟨[(4, (.v (.int .i64 x5_23)))], []⟩) ?_ ?_
            · refine OpsOk.cons rfl (.v (VOk.mv (d := (.v (.int .i64 x5_23))) rfl rfl) rfl) ?_
              refine OpsOk.cons rfl (.v (VOk.asg (d := (.v (.int .i64 x5_23))) rfl rfl) rfl) ?_
              exact .done (.mk ⟨.same _, trivial⟩ trivial)
            refine Ok.le (σ' := ⟨[(4, (.v (.int .i64 x5_23)))], []⟩) (.mk ⟨.same _, trivial⟩ trivial) ?_
            refine Ok.ret ?_
            obtain rfl := Option.some.inj H
            exact ⟨.inl rfl, ⟨_, (.cons (.tmp rfl) .nil), rfl⟩, trivial⟩

/-! watchbill/watchbilllaw04.Few: function 8 -/
def watchbilllaw04_Few (k : Nat) (a0 : T_api_Node) : Option Bool := ((watchbilllaw04_weigh k a0 30000).bind fun (t1 : Int) => some (decide (t1 ≤ 30000)))
theorem watchbilllaw04_Few.ok {k : Nat} {a0 : T_api_Node} {r : Bool} (H : watchbilllaw04_Few k a0 = some r) : Vx.Fn Try.prog 8 [(.agg (e_api_Node a0))] [] (.v (.bool r)) [] := by
  unfold watchbilllaw04_Few at H
  refine Vx.Fn.of_okR Try.func8 rfl (Nat.le_of_ble_eq_true rfl) ?_
  refine Ok.seq ?_
  refine Ok.region (σ' := ⟨[(1, (.bref 1 0))], [(1, (.box true [(.v (.int .i64 a0.Kind)), (S a0.Name.Space), (S a0.Name.Local), (L 3 e_api_Attr a0.Attrs), (L 6 e_api_Node a0.Kids), (S a0.Text)]))]⟩) ?_ ?_
  · refine OpsOk.cut (σ := ⟨[(0, (.agg [(.v (.int .i64 a0.Kind)), (S a0.Name.Space), (S a0.Name.Local), (L 3 e_api_Attr a0.Attrs), (L 6 e_api_Node a0.Kids), (S a0.Text)]))], []⟩) (.mk ⟨DLe.of_eq (congrArg D.agg (e_api_Node_c _).symm), trivial⟩ trivial) ?_
    refine OpsOk.cons rfl (OpOk.box 1 (cells := [(.v (.int .i64 a0.Kind)), (S a0.Name.Space), (S a0.Name.Local), (L 3 e_api_Attr a0.Attrs), (L 6 e_api_Node a0.Kids), (S a0.Text)]) rfl rfl rfl rfl) ?_
    refine OpsOk.cons rfl (.v (VOk.asg (d := (.v (.bool false))) rfl rfl) rfl) ?_
    exact .done (.mk ⟨.same _, trivial⟩ ⟨.same _, trivial⟩)
  refine Ok.seq ?_
  obtain ⟨t1, h2, H⟩ := bindE H
  refine Ok.region (σ' := ⟨[(2, (.v (.bool (decide (t1 ≤ 30000)))))], []⟩) ?_ ?_
  · refine OpsOk.cons rfl (.v (VOk.to (d' := (.agg (e_api_Node a0))) (.loadBAgg rfl Try.underlying27 rfl sz27 rfl rfl rfl) (congrArg D.agg (e_api_Node_c a0).symm)) rfl) ?_
    refine OpsOk.cons rfl (.g (GOk.call rfl rfl cl25 rfl (watchbilllaw04_weigh.ok h2) rfl) rfl) ?_
    refine OpsOk.cons rfl (.v (VOk.arith (op := .leq) (k := .i64) (a := t1) (b := 30000) rfl rfl rfl rfl) rfl) ?_
    refine OpsOk.cons rfl (.v (VOk.asg (d := (.v (.bool (decide (t1 ≤ 30000))))) rfl rfl) rfl) ?_
    exact .done (.mk ⟨.same _, trivial⟩ trivial)
  refine Ok.le (σ' := ⟨[(2, (.v (.bool (decide (t1 ≤ 30000)))))], []⟩) (.mk ⟨.same _, trivial⟩ trivial) ?_
  refine Ok.ret ?_
  obtain rfl := Option.some.inj H
  exact ⟨.inl rfl, ⟨_, (.cons (.tmp rfl) .nil), rfl⟩, trivial⟩

/-! watchbill/watchbilllaw10.Few: function 9 -/
def watchbilllaw10_Few.l0 (k : Nat) (a0 : List T_api_Step) : Nat → Int → Int → Option Bool
  | 0, _, _ => none
  | m5 + 1, x3_1, x4_2 => (if ((decide (x4_2 < (a0.length : Int))) && (decide (x3_1 < 5000))) = true then (if (0 : Int) ≤ x4_2 ∧ x4_2 < (a0.length : Int) then watchbilllaw10_Few.l0 k a0 m5 (IntKind.i64.wrap ((IntKind.i64.wrap ((IntKind.i64.wrap ((IntKind.i64.wrap ((IntKind.i64.wrap (x3_1 + (if 5000 < (((rd a0 x4_2).Name.Space).length : Int) then 5000 else (((rd a0 x4_2).Name.Space).length : Int)))) + (if 5000 < (((rd a0 x4_2).Name.Local).length : Int) then 5000 else (((rd a0 x4_2).Name.Local).length : Int)))) + (if 5000 < (((rd a0 x4_2).Attr.Space).length : Int) then 5000 else (((rd a0 x4_2).Attr.Space).length : Int)))) + (if 5000 < (((rd a0 x4_2).Attr.Local).length : Int) then 5000 else (((rd a0 x4_2).Attr.Local).length : Int)))) + (if 5000 < (((rd a0 x4_2).Value).length : Int) then 5000 else (((rd a0 x4_2).Value).length : Int)))) (IntKind.i64.wrap (x4_2 + 1)) else none) else some (decide (x3_1 < 5000)))
def watchbilllaw10_Few (k : Nat) (a0 : List T_api_Step) : Option Bool := watchbilllaw10_Few.l0 k a0 k (if 5000 < (a0.length : Int) then 5000 else (a0.length : Int)) 0
theorem watchbilllaw10_Few.ok {k : Nat} {a0 : List T_api_Step} {r : Bool} (H : watchbilllaw10_Few k a0 = some r) : Vx.Fn Try.prog 9 [(L 9 e_api_Step a0)] [] (.v (.bool r)) [] := by
  unfold watchbilllaw10_Few at H
  refine Vx.Fn.of_okR Try.func9 rfl (Nat.le_of_ble_eq_true rfl) ?_
  refine Ok.seq ?_
  refine Ok.region (σ' := ⟨[(0, (L 9 e_api_Step a0))], []⟩) ?_ ?_
  · refine OpsOk.cons rfl (.v (VOk.asg (d := (.v (.bool false))) rfl rfl) rfl) ?_
    exact .done (.mk ⟨.same _, trivial⟩ trivial)
  refine Ok.seq ?_
  refine Ok.region (σ' := ⟨[(0, (L 9 e_api_Step a0)), (3, (.v (.int .i64 (if 5000 < (a0.length : Int) then 5000 else (a0.length : Int)))))], []⟩) ?_ ?_
  · refine OpsOk.cons rfl (.v (VOk.mv (d := (L 9 e_api_Step a0)) rfl rfl) rfl) ?_
    refine OpsOk.cons rfl (.v (VOk.lenL (e := e_api_Step) (xs := a0) rfl Try.underlying28 rfl) rfl) ?_
    refine OpsOk.cons rfl (.v (VOk.min2 (a := (a0.length : Int)) (b := 5000) rfl rfl rfl) rfl) ?_
    refine OpsOk.cons rfl (.v (VOk.asg (d := (.v (.int .i64 (if 5000 < (a0.length : Int) then 5000 else (a0.length : Int))))) rfl rfl) rfl) ?_
    exact .done (.mk ⟨.same _, .same _, trivial⟩ trivial)
  refine Ok.seq ?_
  refine Ok.seq ?_
  refine Ok.region (σ' := ⟨[(0, (L 9 e_api_Step a0)), (3, (.v (.int .i64 (if 5000 < (a0.length : Int) then 5000 else (a0.length : Int))))), (4, (.v (.int .i64 0)))], []⟩) ?_ ?_
  · refine OpsOk.cons rfl (.v (VOk.asg (d := (.v (.int .i64 0))) rfl rfl) rfl) ?_
    exact .done (.mk ⟨.same _, .same _, .same _, trivial⟩ trivial)
  refine Ok.block ?_
  refine Ok.le (σ' := ⟨[(0, (L 9 e_api_Step a0)), (3, (.v (.int .i64 (if 5000 < (a0.length : Int) then 5000 else (a0.length : Int))))), (4, (.v (.int .i64 0)))], []⟩) (.mk ⟨.same _, .same _, .same _, trivial⟩ trivial) ?_
  refine Ok.loop (fun m5 σ => ∃ (x3_1 : Int) (x4_2 : Int), σ = ⟨[(0, (L 9 e_api_Step a0)), (3, (.v (.int .i64 x3_1))), (4, (.v (.int .i64 x4_2)))], []⟩ ∧ watchbilllaw10_Few.l0 k a0 m5 x3_1 x4_2 = some r) k ⟨(if 5000 < (a0.length : Int) then 5000 else (a0.length : Int)), 0, rfl, H⟩ ?_
  rintro m5 σ ⟨x3_1, x4_2, rfl, H⟩
  cases m5 with
  | zero => exact absurd H (by simp [watchbilllaw10_Few.l0])
  | succ m5 =>
    unfold watchbilllaw10_Few.l0 at H
    refine Ok.seq ?_
    refine Ok.seq ?_
    refine Ok.region (σ' := ⟨[(0, (L 9 e_api_Step a0)), (3, (.v (.int .i64 x3_1))), (4, (.v (.int .i64 x4_2))), (16, (.v (.bool ((decide (x4_2 < (a0.length : Int))) && (decide (x3_1 < 5000))))))], []⟩) ?_ ?_
    · refine OpsOk.cons rfl (.v (VOk.mv (d := (.v (.int .i64 x4_2))) rfl rfl) rfl) ?_
      refine OpsOk.cons rfl (.v (VOk.mv (d := (L 9 e_api_Step a0)) rfl rfl) rfl) ?_
      refine OpsOk.cons rfl (.v (VOk.lenL (e := e_api_Step) (xs := a0) rfl Try.underlying28 rfl) rfl) ?_
      refine OpsOk.cons rfl (.v (VOk.arith (op := .lss) (k := .i64) (a := x4_2) (b := (a0.length : Int)) rfl rfl rfl rfl) rfl) ?_
      refine OpsOk.cons rfl (.v (VOk.mv (d := (.v (.bool (decide (x4_2 < (a0.length : Int)))))) rfl rfl) rfl) ?_
      refine OpsOk.consI rfl rfl rfl (.one rfl) rfl (fun hw6 => (VOk.g (VOk.mv (d := (.v (.int .i64 x3_1))) rfl rfl))) ?_
      refine OpsOk.consI rfl rfl rfl (.one rfl) rfl (fun hw6 => (GOk.fr (fr' := [(14, (.v (.int .i64 x3_1)))]) ⟨DLe.of_eq (cT hw6).symm, trivial⟩ (VOk.g (VOk.arith (op := .lss) (k := .i64) (a := x3_1) (b := 5000) rfl rfl rfl rfl)))) ?_
      refine OpsOk.cons rfl (.v (VOk.to (VOk.pickI (b := (decide (x4_2 < (a0.length : Int)))) (p := (decide (x3_1 < 5000))) (q := false) rfl rfl (fun hp7 => (cT (t_beq hp7))) (fun hp7 => rfl)) (pickAnd (decide (x4_2 < (a0.length : Int))) (decide (x3_1 < 5000)))) rfl) ?_
      exact .done (.mk ⟨.same _, .same _, .same _, .same _, trivial⟩ trivial)
    refine Ok.test (b := ((decide (x4_2 < (a0.length : Int))) && (decide (x3_1 < 5000)))) rfl (fun hb9 => ?_) (fun hb9 => ?_)
    · replace H := ifT H hb9
      refine Ok.le (σ' := ⟨[(0, (L 9 e_api_Step a0)), (3, (.v (.int .i64 x3_1))), (4, (.v (.int .i64 x4_2)))], []⟩) (.mk ⟨.same _, .same _, .same _, trivial⟩ trivial) ?_
      refine Ok.skip ?_
      refine Ok.seq ?_
      refine Ok.block ?_
      refine Ok.seq ?_
      obtain ⟨c8, H⟩ := assertE H
      refine Ok.region (σ' := ⟨[(0, (L 9 e_api_Step a0)), (3, (.v (.int .i64 x3_1))), (4, (.v (.int .i64 x4_2))), (5, (.bref 5 0))], [(5, (.box true [(.v (.int .i64 ((rd a0 x4_2).Kind))), (.v (.bool ((rd a0 x4_2).Any))), (S ((rd a0 x4_2).Name.Space)), (S ((rd a0 x4_2).Name.Local)), (.v (.int .i64 ((rd a0 x4_2).Pos))), (.v (.bool ((rd a0 x4_2).By))), (S ((rd a0 x4_2).Attr.Space)), (S ((rd a0 x4_2).Attr.Local)), (S ((rd a0 x4_2).Value))]))]⟩) ?_ ?_
      · refine OpsOk.cons rfl (.v (VOk.mv (d := (L 9 e_api_Step a0)) rfl rfl) rfl) ?_
        refine OpsOk.cons rfl (.v (VOk.mv (d := (.v (.int .i64 x4_2))) rfl rfl) rfl) ?_
        refine OpsOk.cons rfl (.v (VOk.indexL (sz := 9) (e := e_api_Step) (xs := a0) (i := x4_2) rfl Try.underlying28 sz30 rfl rfl c8) rfl) ?_
        refine OpsOk.cons rfl (.v (VOk.to (d' := (.agg (e_api_Step (rd a0 x4_2)))) (.loadFpAgg rfl Try.underlying30 rfl sz30 rfl rfl) rfl) rfl) ?_
        refine OpsOk.cons rfl (OpOk.alloc 5 [none, none, none, none, none, none, none, none, none] rfl zo30 rfl rfl) ?_
        refine OpsOk.cons rfl (OpOk.to (σ2 := St.put ⟨_, (5, (.box true [(.v (.int .i64 ((rd a0 x4_2).Kind))), (.v (.bool ((rd a0 x4_2).Any))), (S ((rd a0 x4_2).Name.Space)), (S ((rd a0 x4_2).Name.Local)), (.v (.int .i64 ((rd a0 x4_2).Pos))), (.v (.bool ((rd a0 x4_2).By))), (S ((rd a0 x4_2).Attr.Space)), (S ((rd a0 x4_2).Attr.Local)), (S ((rd a0 x4_2).Value))])) :: _⟩ _ .junk) (.storeB rfl sz30 rfl rfl rfl rfl rfl) rfl) ?_
        exact .done (.mk ⟨.same _, .same _, .same _, .same _, trivial⟩ ⟨.same _, trivial⟩)
      refine Ok.region (σ' := ⟨[(0, (L 9 e_api_Step a0)), (3, (.v (.int .i64 (IntKind.i64.wrap ((IntKind.i64.wrap ((IntKind.i64.wrap ((IntKind.i64.wrap ((IntKind.i64.wrap (x3_1 + (if 5000 < (((rd a0 x4_2).Name.Space).length : Int) then 5000 else (((rd a0 x4_2).Name.Space).length : Int)))) + (if 5000 < (((rd a0 x4_2).Name.Local).length : Int) then 5000 else (((rd a0 x4_2).Name.Local).length : Int)))) + (if 5000 < (((rd a0 x4_2).Attr.Space).length : Int) then 5000 else (((rd a0 x4_2).Attr.Space).length : Int)))) + (if 5000 < (((rd a0 x4_2).Attr.Local).length : Int) then 5000 else (((rd a0 x4_2).Attr.Local).length : Int)))) + (if 5000 < (((rd a0 x4_2).Value).length : Int) then 5000 else (((rd a0 x4_2).Value).length : Int))))))), (4, (.v (.int .i64 x4_2)))], []⟩) ?_ ?_
      · refine OpsOk.cons rfl (.v (VOk.mv (d := (.v (.int .i64 x3_1))) rfl rfl) rfl) ?_
        refine OpsOk.cons rfl (.v (VOk.to (VOk.fieldB rfl Try.underlying30 rfl sz23 rfl rfl) rfl) rfl) ?_
        refine OpsOk.cons rfl (.v (VOk.to (VOk.fieldB rfl Try.underlying23 rfl sz9 rfl rfl) rfl) rfl) ?_
        refine OpsOk.cons rfl (.v (VOk.loadB (d := (S ((rd a0 x4_2).Name.Space))) rfl Try.underlying9 rfl rfl rfl rfl) rfl) ?_
        refine OpsOk.cons rfl (.v (VOk.lenStr (s := (rd a0 x4_2).Name.Space) rfl Try.underlying9 rfl) rfl) ?_
        refine OpsOk.cons rfl (.v (VOk.min2 (a := (((rd a0 x4_2).Name.Space).length : Int)) (b := 5000) rfl rfl rfl) rfl) ?_
        refine OpsOk.cons rfl (.v (VOk.arith (op := .add) (k := .i64) (a := x3_1) (b := (if 5000 < (((rd a0 x4_2).Name.Space).length : Int) then 5000 else (((rd a0 x4_2).Name.Space).length : Int))) rfl rfl rfl rfl) rfl) ?_
        refine OpsOk.cons rfl (.v (VOk.to (VOk.fieldB rfl Try.underlying30 rfl sz23 rfl rfl) rfl) rfl) ?_
        refine OpsOk.cons rfl (.v (VOk.to (VOk.fieldB rfl Try.underlying23 rfl sz9 rfl rfl) rfl) rfl) ?_
        refine OpsOk.cons rfl (.v (VOk.loadB (d := (S ((rd a0 x4_2).Name.Local))) rfl Try.underlying9 rfl rfl rfl rfl) rfl) ?_
        refine OpsOk.cons rfl (.v (VOk.lenStr (s := (rd a0 x4_2).Name.Local) rfl Try.underlying9 rfl) rfl) ?_
        refine OpsOk.cons rfl (.v (VOk.min2 (a := (((rd a0 x4_2).Name.Local).length : Int)) (b := 5000) rfl rfl rfl) rfl) ?_
        refine OpsOk.cons rfl (.v (VOk.arith (op := .add) (k := .i64) (a := (IntKind.i64.wrap (x3_1 + (if 5000 < (((rd a0 x4_2).Name.Space).length : Int) then 5000 else (((rd a0 x4_2).Name.Space).length : Int))))) (b := (if 5000 < (((rd a0 x4_2).Name.Local).length : Int) then 5000 else (((rd a0 x4_2).Name.Local).length : Int))) rfl rfl rfl rfl) rfl) ?_
        refine OpsOk.cons rfl (.v (VOk.to (VOk.fieldB rfl Try.underlying30 rfl sz23 rfl rfl) rfl) rfl) ?_
        refine OpsOk.cons rfl (.v (VOk.to (VOk.fieldB rfl Try.underlying23 rfl sz9 rfl rfl) rfl) rfl) ?_
        refine OpsOk.cons rfl (.v (VOk.loadB (d := (S ((rd a0 x4_2).Attr.Space))) rfl Try.underlying9 rfl rfl rfl rfl) rfl) ?_
        refine OpsOk.cons rfl (.v (VOk.lenStr (s := (rd a0 x4_2).Attr.Space) rfl Try.underlying9 rfl) rfl) ?_
        refine OpsOk.cons rfl (.v (VOk.min2 (a := (((rd a0 x4_2).Attr.Space).length : Int)) (b := 5000) rfl rfl rfl) rfl) ?_
        refine OpsOk.cons rfl (.v (VOk.arith (op := .add) (k := .i64) (a := (IntKind.i64.wrap ((IntKind.i64.wrap (x3_1 + (if 5000 < (((rd a0 x4_2).Name.Space).length : Int) then 5000 else (((rd a0 x4_2).Name.Space).length : Int)))) + (if 5000 < (((rd a0 x4_2).Name.Local).length : Int) then 5000 else (((rd a0 x4_2).Name.Local).length : Int))))) (b := (if 5000 < (((rd a0 x4_2).Attr.Space).length : Int) then 5000 else (((rd a0 x4_2).Attr.Space).length : Int))) rfl rfl rfl rfl) rfl) ?_
        refine OpsOk.cons rfl (.v (VOk.to (VOk.fieldB rfl Try.underlying30 rfl sz23 rfl rfl) rfl) rfl) ?_
        refine OpsOk.cons rfl (.v (VOk.to (VOk.fieldB rfl Try.underlying23 rfl sz9 rfl rfl) rfl) rfl) ?_
        refine OpsOk.cons rfl (.v (VOk.loadB (d := (S ((rd a0 x4_2).Attr.Local))) rfl Try.underlying9 rfl rfl rfl rfl) rfl) ?_
        refine OpsOk.cons rfl (.v (VOk.lenStr (s := (rd a0 x4_2).Attr.Local) rfl Try.underlying9 rfl) rfl) ?_
        refine OpsOk.cons rfl (.v (VOk.min2 (a := (((rd a0 x4_2).Attr.Local).length : Int)) (b := 5000) rfl rfl rfl) rfl) ?_
        refine OpsOk.cons rfl (.v (VOk.arith (op := .add) (k := .i64) (a := (IntKind.i64.wrap ((IntKind.i64.wrap ((IntKind.i64.wrap (x3_1 + (if 5000 < (((rd a0 x4_2).Name.Space).length : Int) then 5000 else (((rd a0 x4_2).Name.Space).length : Int)))) + (if 5000 < (((rd a0 x4_2).Name.Local).length : Int) then 5000 else (((rd a0 x4_2).Name.Local).length : Int)))) + (if 5000 < (((rd a0 x4_2).Attr.Space).length : Int) then 5000 else (((rd a0 x4_2).Attr.Space).length : Int))))) (b := (if 5000 < (((rd a0 x4_2).Attr.Local).length : Int) then 5000 else (((rd a0 x4_2).Attr.Local).length : Int))) rfl rfl rfl rfl) rfl) ?_
        refine OpsOk.cons rfl (.v (VOk.to (VOk.fieldB rfl Try.underlying30 rfl sz9 rfl rfl) rfl) rfl) ?_
        refine OpsOk.cons rfl (.v (VOk.loadB (d := (S ((rd a0 x4_2).Value))) rfl Try.underlying9 rfl rfl rfl rfl) rfl) ?_
        refine OpsOk.cons rfl (.v (VOk.lenStr (s := (rd a0 x4_2).Value) rfl Try.underlying9 rfl) rfl) ?_
        refine OpsOk.cons rfl (.v (VOk.min2 (a := (((rd a0 x4_2).Value).length : Int)) (b := 5000) rfl rfl rfl) rfl) ?_
        refine OpsOk.cons rfl (.v (VOk.arith (op := .add) (k := .i64) (a := (IntKind.i64.wrap ((IntKind.i64.wrap ((IntKind.i64.wrap ((IntKind.i64.wrap (x3_1 + (if 5000 < (((rd a0 x4_2).Name.Space).length : Int) then 5000 else (((rd a0 x4_2).Name.Space).length : Int)))) + (if 5000 < (((rd a0 x4_2).Name.Local).length : Int) then 5000 else (((rd a0 x4_2).Name.Local).length : Int)))) + (if 5000 < (((rd a0 x4_2).Attr.Space).length : Int) then 5000 else (((rd a0 x4_2).Attr.Space).length : Int)))) + (if 5000 < (((rd a0 x4_2).Attr.Local).length : Int) then 5000 else (((rd a0 x4_2).Attr.Local).length : Int))))) (b := (if 5000 < (((rd a0 x4_2).Value).length : Int) then 5000 else (((rd a0 x4_2).Value).length : Int))) rfl rfl rfl rfl) rfl) ?_
        refine OpsOk.cons rfl (.v (VOk.asg (d := (.v (.int .i64 (IntKind.i64.wrap ((IntKind.i64.wrap ((IntKind.i64.wrap ((IntKind.i64.wrap ((IntKind.i64.wrap (x3_1 + (if 5000 < (((rd a0 x4_2).Name.Space).length : Int) then 5000 else (((rd a0 x4_2).Name.Space).length : Int)))) + (if 5000 < (((rd a0 x4_2).Name.Local).length : Int) then 5000 else (((rd a0 x4_2).Name.Local).length : Int)))) + (if 5000 < (((rd a0 x4_2).Attr.Space).length : Int) then 5000 else (((rd a0 x4_2).Attr.Space).length : Int)))) + (if 5000 < (((rd a0 x4_2).Attr.Local).length : Int) then 5000 else (((rd a0 x4_2).Attr.Local).length : Int)))) + (if 5000 < (((rd a0 x4_2).Value).length : Int) then 5000 else (((rd a0 x4_2).Value).length : Int))))))) rfl rfl) rfl) ?_
        exact .done (.mk ⟨.same _, .same _, .same _, trivial⟩ trivial)
      refine Ok.region (σ' := ⟨[(0, (L 9 e_api_Step a0)), (3, (.v (.int .i64 (IntKind.i64.wrap ((IntKind.i64.wrap ((IntKind.i64.wrap ((IntKind.i64.wrap ((IntKind.i64.wrap (x3_1 + (if 5000 < (((rd a0 x4_2).Name.Space).length : Int) then 5000 else (((rd a0 x4_2).Name.Space).length : Int)))) + (if 5000 < (((rd a0 x4_2).Name.Local).length : Int) then 5000 else (((rd a0 x4_2).Name.Local).length : Int)))) + (if 5000 < (((rd a0 x4_2).Attr.Space).length : Int) then 5000 else (((rd a0 x4_2).Attr.Space).length : Int)))) + (if 5000 < (((rd a0 x4_2).Attr.Local).length : Int) then 5000 else (((rd a0 x4_2).Attr.Local).length : Int)))) + (if 5000 < (((rd a0 x4_2).Value).length : Int) then 5000 else (((rd a0 x4_2).Value).length : Int))))))), (4, (.v (.int .i64 (IntKind.i64.wrap (x4_2 + 1)))))], []⟩) ?_ ?_
      · refine OpsOk.cons rfl (.v (VOk.mv (d := (.v (.int .i64 x4_2))) rfl rfl) rfl) ?_
        refine OpsOk.cons rfl (.v (VOk.arith (op := .add) (k := .i64) (a := x4_2) (b := 1) rfl rfl rfl rfl) rfl) ?_
        refine OpsOk.cons rfl (.v (VOk.asg (d := (.v (.int .i64 (IntKind.i64.wrap (x4_2 + 1))))) rfl rfl) rfl) ?_
        exact .done (.mk ⟨.same _, .same _, .same _, trivial⟩ trivial)
      exact ⟨m5, Nat.lt_succ_self m5, (IntKind.i64.wrap ((IntKind.i64.wrap ((IntKind.i64.wrap ((IntKind.i64.wrap ((IntKind.i64.wrap (x3_1 + (if 5000 < (((rd a0 x4_2).Name.Space).length : Int) then 5000 else (((rd a0 x4_2).Name.Space).length : Int)))) + (if 5000 < (((rd a0 x4_2).Name.Local).length : Int) then 5000 else (((rd a0 x4_2).Name.Local).length : Int)))) + (if 5000 < (((rd a0 x4_2).Attr.Space).length : Int) then 5000 else (((rd a0 x4_2).Attr.Space).length : Int)))) + (if 5000 < (((rd a0 x4_2).Attr.Local).length : Int) then 5000 else (((rd a0 x4_2).Attr.Local).length : Int)))) + (if 5000 < (((rd a0 x4_2).Value).length : Int) then 5000 else (((rd a0 x4_2).Value).length : Int)))), (IntKind.i64.wrap (x4_2 + 1)), rfl, H⟩
    · replace H := ifF H hb9
      refine Ok.le (σ' := ⟨[(3, (.v (.int .i64 x3_1)))], []⟩) (.mk ⟨.same _, trivial⟩ trivial) ?_
      refine Ok.exit ?_
      refine Ok.seq ?_
      refine Ok.region (σ' := ⟨[(2, (.v (.bool (decide (x3_1 < 5000)))))], []⟩) ?_ ?_
      · refine OpsOk.cons rfl (.v (VOk.mv (d := (.v (.int .i64 x3_1))) rfl rfl) rfl) ?_
        refine OpsOk.cons rfl (.v (VOk.arith (op := .lss) (k := .i64) (a := x3_1) (b := 5000) rfl rfl rfl rfl) rfl) ?_
        refine OpsOk.cons rfl (.v (VOk.asg (d := (.v (.bool (decide (x3_1 < 5000))))) rfl rfl) rfl) ?_
        exact .done (.mk ⟨.same _, trivial⟩ trivial)
      refine Ok.le (σ' := ⟨[(2, (.v (.bool (decide (x3_1 < 5000)))))], []⟩) (.mk ⟨.same _, trivial⟩ trivial) ?_
      refine Ok.ret ?_
      obtain rfl := Option.some.inj H
      exact ⟨.inl rfl, ⟨_, (.cons (.tmp rfl) .nil), rfl⟩, trivial⟩

/-! watchbill/watchbillref06.Places: function 28 -/
def watchbillref06_Places.l1 (k : Nat) (c0 : Int → Str → Str → List T_api_Attr → List T_api_Node → Str → List (List Int) → Int → Option (List (List Int))) (x4_2 : Int) (t20 : (List (List Int))) : Nat → Int → Str → Str → List T_api_Attr → List T_api_Node → Str → List (List Int) → Int → Option (List (List Int))
  | 0, _, _, _, _, _, _, _, _ => none
  | m38 + 1, y1_0_23, y1_1_24, y1_2_25, y1_3_26, y1_4_27, y1_5_28, y3_29, x6_22 => (if (decide (x6_22 < (t20.length : Int))) = true then (if (0 : Int) ≤ x6_22 ∧ x6_22 < (t20.length : Int) then (if (([x4_2] : List Int).length + (rd t20 x6_22).length) * 8 ≤ 140737488355328 then (if (y3_29.length + ([(([x4_2] : List Int) ++ (rd t20 x6_22))] : List (List Int)).length) * 24 ≤ 140737488355328 then watchbillref06_Places.l1 k c0 x4_2 t20 m38 y1_0_23 y1_1_24 y1_2_25 y1_3_26 y1_4_27 y1_5_28 (y3_29 ++ ([(([x4_2] : List Int) ++ (rd t20 x6_22))] : List (List Int))) (IntKind.i64.wrap (x6_22 + 1)) else none) else none) else none) else c0 y1_0_23 y1_1_24 y1_2_25 y1_3_26 y1_4_27 y1_5_28 y3_29 (IntKind.i64.wrap (x4_2 + 1)))
def watchbillref06_Places.l0 (k : Nat) (self : T_api_Node → Option (List (List Int))) : Nat → Int → Str → Str → List T_api_Attr → List T_api_Node → Str → List (List Int) → Int → Option (List (List Int))
  | 0, _, _, _, _, _, _, _, _ => none
  | m18 + 1, y1_0_3, y1_1_4, y1_2_5, y1_3_6, y1_4_7, y1_5_8, y3_9, x4_2 => (if (decide (x4_2 < (y1_4_7.length : Int))) = true then (if (0 : Int) ≤ x4_2 ∧ x4_2 < (y1_4_7.length : Int) then ((self (rd y1_4_7 x4_2)).bind fun (t20 : (List (List Int))) => watchbillref06_Places.l1 k (watchbillref06_Places.l0 k self m18) x4_2 t20 k y1_0_3 y1_1_4 y1_2_5 y1_3_6 y1_4_7 y1_5_8 y3_9 0) else none) else some y3_9)
def watchbillref06_Places : Nat → T_api_Node → Option (List (List Int))
  | 0, _ => none
  | k + 1, a0 => (if (a0.Kind == 1) = true then (if (([] : List (List Int)).length + ([([] : List Int)] : List (List Int)).length) * 24 ≤ 140737488355328 then watchbillref06_Places.l0 k (watchbillref06_Places k) k a0.Kind a0.Name.Space a0.Name.Local a0.Attrs a0.Kids a0.Text (([] : List (List Int)) ++ ([([] : List Int)] : List (List Int))) 0 else none) else some ([] : List (List Int)))
theorem watchbillref06_Places.ok {k : Nat} {a0 : T_api_Node} {r : (List (List Int))} (H : watchbillref06_Places k a0 = some r) : Vx.Fn Try.prog 28 [(.agg (e_api_Node a0))] [] (L 1 (eL 1 (eI .i64)) r) [] := by
  induction k generalizing a0 r with
  | zero => exact absurd H (by simp [watchbillref06_Places])
  | succ k ih =>
    unfold watchbillref06_Places at H
    refine Vx.Fn.of_okR Try.func28 rfl (Nat.le_of_ble_eq_true rfl) ?_
    refine Ok.seq ?_
    refine Ok.region (σ' := ⟨[(1, (.bref 1 0))], [(1, (.box true [(.v (.int .i64 a0.Kind)), (S a0.Name.Space), (S a0.Name.Local), (L 3 e_api_Attr a0.Attrs), (L 6 e_api_Node a0.Kids), (S a0.Text)]))]⟩) ?_ ?_
    · refine OpsOk.cut (σ := ⟨[(0, (.agg [(.v (.int .i64 a0.Kind)), (S a0.Name.Space), (S a0.Name.Local), (L 3 e_api_Attr a0.Attrs), (L 6 e_api_Node a0.Kids), (S a0.Text)]))], []⟩) (.mk ⟨DLe.of_eq (congrArg D.agg (e_api_Node_c _).symm), trivial⟩ trivial) ?_
      refine OpsOk.cons rfl (OpOk.box 1 (cells := [(.v (.int .i64 a0.Kind)), (S a0.Name.Space), (S a0.Name.Local), (L 3 e_api_Attr a0.Attrs), (L 6 e_api_Node a0.Kids), (S a0.Text)]) rfl rfl rfl rfl) ?_
      refine OpsOk.cons rfl (.v (VOk.asg (d := (.v (.slice none 0 0))) rfl rfl) rfl) ?_
      exact .done (.mk ⟨.same _, trivial⟩ ⟨.same _, trivial⟩)
    refine Ok.seq ?_
    refine Ok.region (σ' := ⟨[(1, (.bref 1 0)), (3, (.sref 3))], [(1, (.box true [(.v (.int .i64 a0.Kind)), (S a0.Name.Space), (S a0.Name.Local), (L 3 e_api_Attr a0.Attrs), (L 6 e_api_Node a0.Kids), (S a0.Text)])), (3, (.rows true 39 1 (([] : List (List Int)).map (eL 1 (eI .i64)))))]⟩) ?_ ?_
    · refine OpsOk.cons rfl (.nilT 3 39 1 (.inl rfl) rfl rfl) ?_
      exact .done (.mk ⟨.same _, .same _, trivial⟩ ⟨.same _, .same _, trivial⟩)
    refine Ok.seq ?_
    refine Ok.seq ?_
    refine Ok.region (σ' := ⟨[(1, (.bref 1 0)), (3, (.sref 3)), (9, (.v (.bool (a0.Kind == 1))))], [(1, (.box true [(.v (.int .i64 a0.Kind)), (S a0.Name.Space), (S a0.Name.Local), (L 3 e_api_Attr a0.Attrs), (L 6 e_api_Node a0.Kids), (S a0.Text)])), (3, (.rows true 39 1 (([] : List (List Int)).map (eL 1 (eI .i64)))))]⟩) ?_ ?_
    · refine OpsOk.cons rfl (.v (VOk.to (VOk.fieldB rfl Try.underlying27 rfl sz3 rfl rfl) rfl) rfl) ?_
      refine OpsOk.cons rfl (.v (VOk.loadB (d := (.v (.int .i64 a0.Kind))) rfl Try.underlying3 rfl rfl rfl rfl) rfl) ?_
      refine OpsOk.cons rfl (.v (VOk.arith (op := .eql) (k := .i64) (a := a0.Kind) (b := 1) rfl rfl rfl rfl) rfl) ?_
      exact .done (.mk ⟨.same _, .same _, .same _, trivial⟩ ⟨.same _, .same _, trivial⟩)
    refine Ok.test (b := (a0.Kind == 1)) rfl (fun hb44 => ?_) (fun hb44 => ?_)
    · replace H := ifT H hb44
      refine Ok.seq ?_
      obtain ⟨c1, H⟩ := assertE H
      refine Ok.region (σ' := ⟨[(1, (.bref 1 0)), (3, (.sref 3))], [(1, (.box true [(.v (.int .i64 a0.Kind)), (S a0.Name.Space), (S a0.Name.Local), (L 3 e_api_Attr a0.Attrs), (L 6 e_api_Node a0.Kids), (S a0.Text)])), (3, (.rows true 39 1 ((([] : List (List Int)) ++ ([([] : List Int)] : List (List Int))).map (eL 1 (eI .i64)))))]⟩) ?_ ?_
      · refine OpsOk.cons rfl (.v (VOk.mv (d := (.sref 3)) rfl rfl) rfl) ?_
        refine OpsOk.cons rfl (.g (GOk.to (d' := (L 1 (eI .i64) ([] : List Int))) (GOk.lit rfl Try.underlying39 sz3 zs3 rfl rfl rfl rfl) rfl) rfl) ?_
        refine OpsOk.cons rfl (.g (GOk.to (d' := (L 1 (eL 1 (eI .i64)) ([([] : List Int)] : List (List Int)))) (GOk.lit rfl Try.underlying34 sz39 zs39 rfl rfl rfl rfl) rfl) rfl) ?_
        refine OpsOk.cons rfl (OpOk.appendL (e := (eL 1 (eI .i64))) (xs := ([] : List (List Int))) (ys := ([([] : List Int)] : List (List Int))) rfl Try.underlying34 elt39 rfl rfl rfl c1 rfl) ?_
        refine OpsOk.cons rfl (.v (VOk.asg (d := (.sref 3)) rfl rfl) rfl) ?_
        exact .done (.mk ⟨.same _, .same _, trivial⟩ ⟨.same _, .same _, trivial⟩)
      refine Ok.seq ?_
      refine Ok.region (σ' := ⟨[(1, (.bref 1 0)), (3, (.sref 3)), (4, (.v (.int .i64 0)))], [(1, (.box true [(.v (.int .i64 a0.Kind)), (S a0.Name.Space), (S a0.Name.Local), (L 3 e_api_Attr a0.Attrs), (L 6 e_api_Node a0.Kids), (S a0.Text)])), (3, (.rows true 39 1 ((([] : List (List Int)) ++ ([([] : List Int)] : List (List Int))).map (eL 1 (eI .i64)))))]⟩) ?_ ?_
      · refine OpsOk.cons rfl (.v (VOk.asg (d := (.v (.int .i64 0))) rfl rfl) rfl) ?_
        exact .done (.mk ⟨.same _, .same _, .same _, trivial⟩ ⟨.same _, .same _, trivial⟩)
      refine Ok.block ?_
      refine Ok.le (σ' := ⟨[(1, (.bref 1 0)), (3, (.sref 3)), (4, (.v (.int .i64 0)))], [(1, (.box true [(.v (.int .i64 a0.Kind)), (S a0.Name.Space), (S a0.Name.Local), (L 3 e_api_Attr a0.Attrs), (L 6 e_api_Node a0.Kids), (S a0.Text)])), (3, (.rows true 39 1 ((([] : List (List Int)) ++ ([([] : List Int)] : List (List Int))).map (eL 1 (eI .i64)))))]⟩) (.mk ⟨.same _, .same _, .same _, trivial⟩ ⟨.same _, .same _, trivial⟩) ?_
      refine Ok.loop (fun m18 σ => ∃ (y1_0_3 : Int) (y1_1_4 : Str) (y1_2_5 : Str) (y1_3_6 : List T_api_Attr) (y1_4_7 : List T_api_Node) (y1_5_8 : Str) (y3_9 : List (List Int)) (x4_2 : Int), σ = ⟨[(1, (.bref 1 0)), (3, (.sref 3)), (4, (.v (.int .i64 x4_2)))], [(1, (.box true [(.v (.int .i64 y1_0_3)), (S y1_1_4), (S y1_2_5), (L 3 e_api_Attr y1_3_6), (L 6 e_api_Node y1_4_7), (S y1_5_8)])), (3, (.rows true 39 1 (y3_9.map (eL 1 (eI .i64)))))]⟩ ∧ watchbillref06_Places.l0 k (watchbillref06_Places k) m18 y1_0_3 y1_1_4 y1_2_5 y1_3_6 y1_4_7 y1_5_8 y3_9 x4_2 = some r) k ⟨a0.Kind, a0.Name.Space, a0.Name.Local, a0.Attrs, a0.Kids, a0.Text, (([] : List (List Int)) ++ ([([] : List Int)] : List (List Int))), 0, rfl, H⟩ ?_
      rintro m18 σ ⟨y1_0_3, y1_1_4, y1_2_5, y1_3_6, y1_4_7, y1_5_8, y3_9, x4_2, rfl, H⟩
      cases m18 with
      | zero => exact absurd H (by simp [watchbillref06_Places.l0])
      | succ m18 =>
        unfold watchbillref06_Places.l0 at H
        refine Ok.seq ?_
        refine Ok.seq ?_
        refine Ok.region (σ' := ⟨[(1, (.bref 1 0)), (3, (.sref 3)), (4, (.v (.int .i64 x4_2))), (18, (.v (.bool (decide (x4_2 < (y1_4_7.length : Int))))))], [(1, (.box true [(.v (.int .i64 y1_0_3)), (S y1_1_4), (S y1_2_5), (L 3 e_api_Attr y1_3_6), (L 6 e_api_Node y1_4_7), (S y1_5_8)])), (3, (.rows true 39 1 (y3_9.map (eL 1 (eI .i64)))))]⟩) ?_ ?_
        · refine OpsOk.cons rfl (.v (VOk.mv (d := (.v (.int .i64 x4_2))) rfl rfl) rfl) ?_
          refine OpsOk.cons rfl (.v (VOk.to (VOk.fieldB rfl Try.underlying27 rfl sz25 rfl rfl) rfl) rfl) ?_
          refine OpsOk.cons rfl (.v (VOk.loadB (d := (L 6 e_api_Node y1_4_7)) rfl Try.underlying25 rfl rfl rfl rfl) rfl) ?_
          refine OpsOk.cons rfl (.v (VOk.lenL (e := e_api_Node) (xs := y1_4_7) rfl Try.underlying25 rfl) rfl) ?_
          refine OpsOk.cons rfl (.v (VOk.arith (op := .lss) (k := .i64) (a := x4_2) (b := (y1_4_7.length : Int)) rfl rfl rfl rfl) rfl) ?_
          exact .done (.mk ⟨.same _, .same _, .same _, .same _, trivial⟩ ⟨.same _, .same _, trivial⟩)
        refine Ok.test (b := (decide (x4_2 < (y1_4_7.length : Int)))) rfl (fun hb43 => ?_) (fun hb43 => ?_)
        · replace H := ifT H hb43
          refine Ok.le (σ' := ⟨[(1, (.bref 1 0)), (3, (.sref 3)), (4, (.v (.int .i64 x4_2)))], [(1, (.box true [(.v (.int .i64 y1_0_3)), (S y1_1_4), (S y1_2_5), (L 3 e_api_Attr y1_3_6), (L 6 e_api_Node y1_4_7), (S y1_5_8)])), (3, (.rows true 39 1 (y3_9.map (eL 1 (eI .i64)))))]⟩) (.mk ⟨.same _, .same _, .same _, trivial⟩ ⟨.same _, .same _, trivial⟩) ?_
          refine Ok.skip ?_
          refine Ok.seq ?_
          refine Ok.block ?_
          refine Ok.seq ?_
          obtain ⟨c19, H⟩ := assertE H
          obtain ⟨t20, h21, H⟩ := bindE H
          refine Ok.region (σ' := ⟨[(1, (.bref 1 0)), (3, (.sref 3)), (4, (.v (.int .i64 x4_2))), (5, (L 1 (eL 1 (eI .i64)) t20))], [(1, (.box true [(.v (.int .i64 y1_0_3)), (S y1_1_4), (S y1_2_5), (L 3 e_api_Attr y1_3_6), (L 6 e_api_Node y1_4_7), (S y1_5_8)])), (3, (.rows true 39 1 (y3_9.map (eL 1 (eI .i64)))))]⟩) ?_ ?_
          · refine OpsOk.cons rfl (.v (VOk.to (VOk.fieldB rfl Try.underlying27 rfl sz25 rfl rfl) rfl) rfl) ?_
            refine OpsOk.cons rfl (.v (VOk.loadB (d := (L 6 e_api_Node y1_4_7)) rfl Try.underlying25 rfl rfl rfl rfl) rfl) ?_
            refine OpsOk.cons rfl (.v (VOk.mv (d := (.v (.int .i64 x4_2))) rfl rfl) rfl) ?_
            refine OpsOk.cons rfl (.v (VOk.indexL (sz := 6) (e := e_api_Node) (xs := y1_4_7) (i := x4_2) rfl Try.underlying25 sz27 rfl rfl c19) rfl) ?_
            refine OpsOk.cons rfl (.v (VOk.to (d' := (.agg (e_api_Node (rd y1_4_7 x4_2)))) (.loadFpAgg rfl Try.underlying27 rfl sz27 rfl rfl) rfl) rfl) ?_
            refine OpsOk.cons rfl (.g (GOk.call rfl rfl cl28 rfl (@ih _ _ h21) rfl) rfl) ?_
            refine OpsOk.cons rfl (.v (VOk.asg (d := (L 1 (eL 1 (eI .i64)) t20)) rfl rfl) rfl) ?_
            exact .done (.mk ⟨.same _, .same _, .same _, .same _, trivial⟩ ⟨.same _, .same _, trivial⟩)
          refine Ok.seq ?_
          refine Ok.region (σ' := ⟨[(1, (.bref 1 0)), (3, (.sref 3)), (4, (.v (.int .i64 x4_2))), (5, (L 1 (eL 1 (eI .i64)) t20)), (6, (.v (.int .i64 0)))], [(1, (.box true [(.v (.int .i64 y1_0_3)), (S y1_1_4), (S y1_2_5), (L 3 e_api_Attr y1_3_6), (L 6 e_api_Node y1_4_7), (S y1_5_8)])), (3, (.rows true 39 1 (y3_9.map (eL 1 (eI .i64)))))]⟩) ?_ ?_
          · refine OpsOk.cons rfl (.v (VOk.asg (d := (.v (.int .i64 0))) rfl rfl) rfl) ?_
            exact .done (.mk ⟨.same _, .same _, .same _, .same _, .same _, trivial⟩ ⟨.same _, .same _, trivial⟩)
          refine Ok.block ?_
          refine Ok.le (σ' := ⟨[(1, (.bref 1 0)), (3, (.sref 3)), (4, (.v (.int .i64 x4_2))), (5, (L 1 (eL 1 (eI .i64)) t20)), (6, (.v (.int .i64 0)))], [(1, (.box true [(.v (.int .i64 y1_0_3)), (S y1_1_4), (S y1_2_5), (L 3 e_api_Attr y1_3_6), (L 6 e_api_Node y1_4_7), (S y1_5_8)])), (3, (.rows true 39 1 (y3_9.map (eL 1 (eI .i64)))))]⟩) (.mk ⟨.same _, .same _, .same _, .same _, .same _, trivial⟩ ⟨.same _, .same _, trivial⟩) ?_
          refine Ok.loop (fun m38 σ => ∃ (y1_0_23 : Int) (y1_1_24 : Str) (y1_2_25 : Str) (y1_3_26 : List T_api_Attr) (y1_4_27 : List T_api_Node) (y1_5_28 : Str) (y3_29 : List (List Int)) (x6_22 : Int), σ = ⟨[(1, (.bref 1 0)), (3, (.sref 3)), (4, (.v (.int .i64 x4_2))), (5, (L 1 (eL 1 (eI .i64)) t20)), (6, (.v (.int .i64 x6_22)))], [(1, (.box true [(.v (.int .i64 y1_0_23)), (S y1_1_24), (S y1_2_25), (L 3 e_api_Attr y1_3_26), (L 6 e_api_Node y1_4_27), (S y1_5_28)])), (3, (.rows true 39 1 (y3_29.map (eL 1 (eI .i64)))))]⟩ ∧ watchbillref06_Places.l1 k (watchbillref06_Places.l0 k (watchbillref06_Places k) m18) x4_2 t20 m38 y1_0_23 y1_1_24 y1_2_25 y1_3_26 y1_4_27 y1_5_28 y3_29 x6_22 = some r) k ⟨y1_0_3, y1_1_4, y1_2_5, y1_3_6, y1_4_7, y1_5_8, y3_9, 0, rfl, H⟩ ?_
          rintro m38 σ ⟨y1_0_23, y1_1_24, y1_2_25, y1_3_26, y1_4_27, y1_5_28, y3_29, x6_22, rfl, H⟩
          cases m38 with
          | zero => exact absurd H (by simp [watchbillref06_Places.l1])
          | succ m38 =>
            unfold watchbillref06_Places.l1 at H
            refine Ok.seq ?_
            refine Ok.seq ?_
            refine Ok.region (σ' := ⟨[(1, (.bref 1 0)), (3, (.sref 3)), (4, (.v (.int .i64 x4_2))), (5, (L 1 (eL 1 (eI .i64)) t20)), (6, (.v (.int .i64 x6_22))), (30, (.v (.bool (decide (x6_22 < (t20.length : Int))))))], [(1, (.box true [(.v (.int .i64 y1_0_23)), (S y1_1_24), (S y1_2_25), (L 3 e_api_Attr y1_3_26), (L 6 e_api_Node y1_4_27), (S y1_5_28)])), (3, (.rows true 39 1 (y3_29.map (eL 1 (eI .i64)))))]⟩) ?_ ?_
            · refine OpsOk.cons rfl (.v (VOk.mv (d := (.v (.int .i64 x6_22))) rfl rfl) rfl) ?_
              refine OpsOk.cons rfl (.v (VOk.mv (d := (L 1 (eL 1 (eI .i64)) t20)) rfl rfl) rfl) ?_
              refine OpsOk.cons rfl (.v (VOk.lenL (e := (eL 1 (eI .i64))) (xs := t20) rfl Try.underlying34 rfl) rfl) ?_
              refine OpsOk.cons rfl (.v (VOk.arith (op := .lss) (k := .i64) (a := x6_22) (b := (t20.length : Int)) rfl rfl rfl rfl) rfl) ?_
              exact .done (.mk ⟨.same _, .same _, .same _, .same _, .same _, .same _, trivial⟩ ⟨.same _, .same _, trivial⟩)
            refine Ok.test (b := (decide (x6_22 < (t20.length : Int)))) rfl (fun hb42 => ?_) (fun hb42 => ?_)
            · replace H := ifT H hb42
              refine Ok.le (σ' := ⟨[(1, (.bref 1 0)), (3, (.sref 3)), (4, (.v (.int .i64 x4_2))), (5, (L 1 (eL 1 (eI .i64)) t20)), (6, (.v (.int .i64 x6_22)))], [(1, (.box true [(.v (.int .i64 y1_0_23)), (S y1_1_24), (S y1_2_25), (L 3 e_api_Attr y1_3_26), (L 6 e_api_Node y1_4_27), (S y1_5_28)])), (3, (.rows true 39 1 (y3_29.map (eL 1 (eI .i64)))))]⟩) (.mk ⟨.same _, .same _, .same _, .same _, .same _, trivial⟩ ⟨.same _, .same _, trivial⟩) ?_
              refine Ok.skip ?_
              refine Ok.seq ?_
              refine Ok.block ?_
              obtain ⟨c39, H⟩ := assertE H
              obtain ⟨c40, H⟩ := assertE H
              obtain ⟨c41, H⟩ := assertE H
              refine Ok.region (σ' := ⟨[(1, (.bref 1 0)), (3, (.sref 3)), (4, (.v (.int .i64 x4_2))), (5, (L 1 (eL 1 (eI .i64)) t20)), (6, (.v (.int .i64 x6_22)))], [(1, (.box true [(.v (.int .i64 y1_0_23)), (S y1_1_24), (S y1_2_25), (L 3 e_api_Attr y1_3_26), (L 6 e_api_Node y1_4_27), (S y1_5_28)])), (3, (.rows true 39 1 ((y3_29 ++ ([(([x4_2] : List Int) ++ (rd t20 x6_22))] : List (List Int))).map (eL 1 (eI .i64)))))]⟩) ?_ ?_
              · refine OpsOk.cons rfl (.v (VOk.mv (d := (.sref 3)) rfl rfl) rfl) ?_
                refine OpsOk.cons rfl (.v (VOk.mv (d := (.v (.int .i64 x4_2))) rfl rfl) rfl) ?_
                refine OpsOk.cons rfl (.g (GOk.to (d' := (.clist 1 (List.map (eI .i64) ([x4_2] : List Int)))) (GOk.litC rfl Try.underlying39 sz3 zs3 rfl rfl rfl rfl) rfl) rfl) ?_
                refine OpsOk.cons rfl (.v (VOk.mv (d := (L 1 (eL 1 (eI .i64)) t20)) rfl rfl) rfl) ?_
                refine OpsOk.cons rfl (.v (VOk.mv (d := (.v (.int .i64 x6_22))) rfl rfl) rfl) ?_
                refine OpsOk.cons rfl (.v (VOk.indexL (sz := 1) (e := (eL 1 (eI .i64))) (xs := t20) (i := x6_22) rfl Try.underlying34 sz39 rfl rfl c39) rfl) ?_
                refine OpsOk.cons rfl (.v (VOk.loadFp (d := (L 1 (eI .i64) (rd t20 x6_22))) rfl Try.underlying39 rfl rfl rfl) rfl) ?_
                refine OpsOk.cons rfl (.g (GOk.appendC (e := (eI .i64)) (xs := ([x4_2] : List Int)) (ys := (rd t20 x6_22)) rfl Try.underlying39 elt3 (.same _) rfl c40) rfl) ?_
                refine OpsOk.cons rfl (.g (GOk.to (d' := (L 1 (eL 1 (eI .i64)) ([(([x4_2] : List Int) ++ (rd t20 x6_22))] : List (List Int)))) (GOk.lit rfl Try.underlying34 sz39 zs39 rfl rfl rfl rfl) rfl) rfl) ?_
                refine OpsOk.cons rfl (OpOk.appendL (e := (eL 1 (eI .i64))) (xs := y3_29) (ys := ([(([x4_2] : List Int) ++ (rd t20 x6_22))] : List (List Int))) rfl Try.underlying34 elt39 rfl rfl rfl c41 rfl) ?_
                refine OpsOk.cons rfl (.v (VOk.asg (d := (.sref 3)) rfl rfl) rfl) ?_
                exact .done (.mk ⟨.same _, .same _, .same _, .same _, .same _, trivial⟩ ⟨.same _, .same _, trivial⟩)
              refine Ok.region (σ' := ⟨[(1, (.bref 1 0)), (3, (.sref 3)), (4, (.v (.int .i64 x4_2))), (5, (L 1 (eL 1 (eI .i64)) t20)), (6, (.v (.int .i64 (IntKind.i64.wrap (x6_22 + 1)))))], [(1, (.box true [(.v (.int .i64 y1_0_23)), (S y1_1_24), (S y1_2_25), (L 3 e_api_Attr y1_3_26), (L 6 e_api_Node y1_4_27), (S y1_5_28)])), (3, (.rows true 39 1 ((y3_29 ++ ([(([x4_2] : List Int) ++ (rd t20 x6_22))] : List (List Int))).map (eL 1 (eI .i64)))))]⟩) ?_ ?_
              · refine OpsOk.cons rfl (.v (VOk.mv (d := (.v (.int .i64 x6_22))) rfl rfl) rfl) ?_
                refine OpsOk.cons rfl (.v (VOk.arith (op := .add) (k := .i64) (a := x6_22) (b := 1) rfl rfl rfl rfl) rfl) ?_
                refine OpsOk.cons rfl (.v (VOk.asg (d := (.v (.int .i64 (IntKind.i64.wrap (x6_22 + 1))))) rfl rfl) rfl) ?_
                exact .done (.mk ⟨.same _, .same _, .same _, .same _, .same _, trivial⟩ ⟨.same _, .same _, trivial⟩)
              exact ⟨m38, Nat.lt_succ_self m38, y1_0_23, y1_1_24, y1_2_25, y1_3_26, y1_4_27, y1_5_28, (y3_29 ++ ([(([x4_2] : List Int) ++ (rd t20 x6_22))] : List (List Int))), (IntKind.i64.wrap (x6_22 + 1)), rfl, H⟩
            · replace H := ifF H hb42
              refine Ok.le (σ' := ⟨[(1, (.bref 1 0)), (3, (.sref 3)), (4, (.v (.int .i64 x4_2)))], [(1, (.box true [(.v (.int .i64 y1_0_23)), (S y1_1_24), (S y1_2_25), (L 3 e_api_Attr y1_3_26), (L 6 e_api_Node y1_4_27), (S y1_5_28)])), (3, (.rows true 39 1 (y3_29.map (eL 1 (eI .i64)))))]⟩) (.mk ⟨.same _, .same _, .same _, trivial⟩ ⟨.same _, .same _, trivial⟩) ?_
              refine Ok.exit ?_
              refine Ok.region (σ' := ⟨[(1, (.bref 1 0)), (3, (.sref 3)), (4, (.v (.int .i64 (IntKind.i64.wrap (x4_2 + 1)))))], [(1, (.box true [(.v (.int .i64 y1_0_23)), (S y1_1_24), (S y1_2_25), (L 3 e_api_Attr y1_3_26), (L 6 e_api_Node y1_4_27), (S y1_5_28)])), (3, (.rows true 39 1 (y3_29.map (eL 1 (eI .i64)))))]⟩) ?_ ?_
              · refine OpsOk.cons rfl (.v (VOk.mv (d := (.v (.int .i64 x4_2))) rfl rfl) rfl) ?_
                refine OpsOk.cons rfl (.v (VOk.arith (op := .add) (k := .i64) (a := x4_2) (b := 1) rfl rfl rfl rfl) rfl) ?_
                refine OpsOk.cons rfl (.v (VOk.asg (d := (.v (.int .i64 (IntKind.i64.wrap (x4_2 + 1))))) rfl rfl) rfl) ?_
                exact .done (.mk ⟨.same _, .same _, .same _, trivial⟩ ⟨.same _, .same _, trivial⟩)
              exact ⟨m18, Nat.lt_succ_self m18, y1_0_23, y1_1_24, y1_2_25, y1_3_26, y1_4_27, y1_5_28, y3_29, (IntKind.i64.wrap (x4_2 + 1)), rfl, H⟩
        · replace H := ifF H hb43
          refine Ok.le (σ' := ⟨[(3, (.sref 3))], [(3, (.rows true 39 1 (y3_9.map (eL 1 (eI .i64)))))]⟩) (.mk ⟨.same _, trivial⟩ ⟨.same _, trivial⟩) ?_
          refine Ok.exit ?_
          refine Ok.seq ?_
          refine Ok.region (σ' := ⟨[(2, (.sref 3))], [(3, (.rows true 39 1 (y3_9.map (eL 1 (eI .i64)))))]⟩) ?_ ?_
          · refine OpsOk.cons rfl (.v (VOk.mv (d := (.sref 3)) rfl rfl) rfl) ?_
            refine OpsOk.cons rfl (.v (VOk.asg (d := (.sref 3)) rfl rfl) rfl) ?_
            exact .done (.mk ⟨.same _, trivial⟩ ⟨.same _, trivial⟩)
          refine Ok.frzL 3 (e := (eL 1 (eI .i64))) (xs := y3_9) rfl ?_
          refine Ok.le (σ' := ⟨[(2, (L 1 (eL 1 (eI .i64)) y3_9))], []⟩) (.mk ⟨.same _, trivial⟩ trivial) ?_
          refine Ok.ret ?_
          obtain rfl := Option.some.inj H
          exact ⟨.inl rfl, ⟨_, (.cons (.tmp rfl) .nil), rfl⟩, trivial⟩
    · replace H := ifF H hb44
      refine Ok.le (σ' := ⟨[(3, (.sref 3))], [(3, (.rows true 39 1 (([] : List (List Int)).map (eL 1 (eI .i64)))))]⟩) (.mk ⟨.same _, trivial⟩ ⟨.same _, trivial⟩) ?_
      refine Ok.skip ?_
      refine Ok.seq ?_
      refine Ok.region (σ' := ⟨[(2, (.sref 3))], [(3, (.rows true 39 1 (([] : List (List Int)).map (eL 1 (eI .i64)))))]⟩) ?_ ?_
      · refine OpsOk.cons rfl (.v (VOk.mv (d := (.sref 3)) rfl rfl) rfl) ?_
        refine OpsOk.cons rfl (.v (VOk.asg (d := (.sref 3)) rfl rfl) rfl) ?_
        exact .done (.mk ⟨.same _, trivial⟩ ⟨.same _, trivial⟩)
      refine Ok.frzL 3 (e := (eL 1 (eI .i64))) (xs := ([] : List (List Int))) rfl ?_
      refine Ok.le (σ' := ⟨[(2, (L 1 (eL 1 (eI .i64)) ([] : List (List Int))))], []⟩) (.mk ⟨.same _, trivial⟩ trivial) ?_
      refine Ok.ret ?_
      obtain rfl := Option.some.inj H
      exact ⟨.inl rfl, ⟨_, (.cons (.tmp rfl) .nil), rfl⟩, trivial⟩

/-! watchbill/watchbillref04.Get: function 32 -/
def watchbillref04_Get.l0 (k : Nat) : Nat → Int → Str → Str → List T_api_Attr → List T_api_Node → Str → Str → Str → Int → Option (Str × Bool)
  | 0, _, _, _, _, _, _, _, _, _ => none
  | m19 + 1, y2_0_2, y2_1_3, y2_2_4, y2_3_5, y2_4_6, y2_5_7, y3_0_8, y3_1_9, x6_1 => (if (decide (x6_1 < (y2_3_5.length : Int))) = true then (if (0 : Int) ≤ x6_1 ∧ x6_1 < (y2_3_5.length : Int) then (if (((rd y2_3_5 x6_1).Name).Space == (T_api_Name.mk y3_0_8 y3_1_9).Space && (((rd y2_3_5 x6_1).Name).Local == (T_api_Name.mk y3_0_8 y3_1_9).Local && true)) = true then (if (0 : Int) ≤ x6_1 ∧ x6_1 < (y2_3_5.length : Int) then some ((rd y2_3_5 x6_1).Value, true) else none) else watchbillref04_Get.l0 k m19 y2_0_2 y2_1_3 y2_2_4 y2_3_5 y2_4_6 y2_5_7 y3_0_8 y3_1_9 (IntKind.i64.wrap (x6_1 + 1))) else none) else some (([] : Str), false))
def watchbillref04_Get (k : Nat) (a0 : T_api_Node) (a1 : T_api_Name) : Option (Str × Bool) := watchbillref04_Get.l0 k k a0.Kind a0.Name.Space a0.Name.Local a0.Attrs a0.Kids a0.Text a1.Space a1.Local 0
theorem watchbillref04_Get.ok {k : Nat} {a0 : T_api_Node} {a1 : T_api_Name} {r : Str × Bool} (H : watchbillref04_Get k a0 a1 = some r) : Vx.Fn Try.prog 32 [(.agg (e_api_Node a0)), (.agg (e_api_Name a1))] [] (.tup [(S r.1), (.v (.bool r.2))]) [] := by
  unfold watchbillref04_Get at H
  refine Vx.Fn.of_okR Try.func32 rfl (Nat.le_of_ble_eq_true rfl) ?_
  refine Ok.seq ?_
  refine Ok.region (σ' := ⟨[(2, (.bref 2 0)), (3, (.bref 3 0))], [(2, (.box true [(.v (.int .i64 a0.Kind)), (S a0.Name.Space), (S a0.Name.Local), (L 3 e_api_Attr a0.Attrs), (L 6 e_api_Node a0.Kids), (S a0.Text)])), (3, (.box true [(S a1.Space), (S a1.Local)]))]⟩) ?_ ?_
  · refine OpsOk.cut (σ := ⟨[(0, (.agg [(.v (.int .i64 a0.Kind)), (S a0.Name.Space), (S a0.Name.Local), (L 3 e_api_Attr a0.Attrs), (L 6 e_api_Node a0.Kids), (S a0.Text)])), (1, (.agg (e_api_Name a1)))], []⟩) (.mk ⟨DLe.of_eq (congrArg D.agg (e_api_Node_c _).symm), .same _, trivial⟩ trivial) ?_
    refine OpsOk.cons rfl (OpOk.box 2 (cells := [(.v (.int .i64 a0.Kind)), (S a0.Name.Space), (S a0.Name.Local), (L 3 e_api_Attr a0.Attrs), (L 6 e_api_Node a0.Kids), (S a0.Text)]) rfl rfl rfl rfl) ?_
    refine OpsOk.cons rfl (OpOk.box 3 (cells := [(S a1.Space), (S a1.Local)]) rfl rfl rfl rfl) ?_
    refine OpsOk.cons rfl (.v (VOk.asg (d := (S ([] : Str))) rfl rfl) rfl) ?_
    refine OpsOk.cons rfl (.v (VOk.asg (d := (.v (.bool false))) rfl rfl) rfl) ?_
    exact .done (.mk ⟨.same _, .same _, trivial⟩ ⟨.same _, .same _, trivial⟩)
  refine Ok.seq ?_
  refine Ok.seq ?_
  refine Ok.region (σ' := ⟨[(2, (.bref 2 0)), (3, (.bref 3 0)), (6, (.v (.int .i64 0)))], [(2, (.box true [(.v (.int .i64 a0.Kind)), (S a0.Name.Space), (S a0.Name.Local), (L 3 e_api_Attr a0.Attrs), (L 6 e_api_Node a0.Kids), (S a0.Text)])), (3, (.box true [(S a1.Space), (S a1.Local)]))]⟩) ?_ ?_
  · refine OpsOk.cons rfl (.v (VOk.asg (d := (.v (.int .i64 0))) rfl rfl) rfl) ?_
    exact .done (.mk ⟨.same _, .same _, .same _, trivial⟩ ⟨.same _, .same _, trivial⟩)
  refine Ok.block ?_
  refine Ok.le (σ' := ⟨[(2, (.bref 2 0)), (3, (.bref 3 0)), (6, (.v (.int .i64 0)))], [(2, (.box true [(.v (.int .i64 a0.Kind)), (S a0.Name.Space), (S a0.Name.Local), (L 3 e_api_Attr a0.Attrs), (L 6 e_api_Node a0.Kids), (S a0.Text)])), (3, (.box true [(S a1.Space), (S a1.Local)]))]⟩) (.mk ⟨.same _, .same _, .same _, trivial⟩ ⟨.same _, .same _, trivial⟩) ?_
  refine Ok.loop (fun m19 σ => ∃ (y2_0_2 : Int) (y2_1_3 : Str) (y2_2_4 : Str) (y2_3_5 : List T_api_Attr) (y2_4_6 : List T_api_Node) (y2_5_7 : Str) (y3_0_8 : Str) (y3_1_9 : Str) (x6_1 : Int), σ = ⟨[(2, (.bref 2 0)), (3, (.bref 3 0)), (6, (.v (.int .i64 x6_1)))], [(2, (.box true [(.v (.int .i64 y2_0_2)), (S y2_1_3), (S y2_2_4), (L 3 e_api_Attr y2_3_5), (L 6 e_api_Node y2_4_6), (S y2_5_7)])), (3, (.box true [(S y3_0_8), (S y3_1_9)]))]⟩ ∧ watchbillref04_Get.l0 k m19 y2_0_2 y2_1_3 y2_2_4 y2_3_5 y2_4_6 y2_5_7 y3_0_8 y3_1_9 x6_1 = some r) k ⟨a0.Kind, a0.Name.Space, a0.Name.Local, a0.Attrs, a0.Kids, a0.Text, a1.Space, a1.Local, 0, rfl, H⟩ ?_
  rintro m19 σ ⟨y2_0_2, y2_1_3, y2_2_4, y2_3_5, y2_4_6, y2_5_7, y3_0_8, y3_1_9, x6_1, rfl, H⟩
  cases m19 with
  | zero => exact absurd H (by simp [watchbillref04_Get.l0])
  | succ m19 =>
    unfold watchbillref04_Get.l0 at H
    refine Ok.seq ?_
    refine Ok.seq ?_
    refine Ok.region (σ' := ⟨[(2, (.bref 2 0)), (3, (.bref 3 0)), (6, (.v (.int .i64 x6_1))), (11, (.v (.bool (decide (x6_1 < (y2_3_5.length : Int))))))], [(2, (.box true [(.v (.int .i64 y2_0_2)), (S y2_1_3), (S y2_2_4), (L 3 e_api_Attr y2_3_5), (L 6 e_api_Node y2_4_6), (S y2_5_7)])), (3, (.box true [(S y3_0_8), (S y3_1_9)]))]⟩) ?_ ?_
    · refine OpsOk.cons rfl (.v (VOk.mv (d := (.v (.int .i64 x6_1))) rfl rfl) rfl) ?_
      refine OpsOk.cons rfl (.v (VOk.to (VOk.fieldB rfl Try.underlying27 rfl sz24 rfl rfl) rfl) rfl) ?_
      refine OpsOk.cons rfl (.v (VOk.loadB (d := (L 3 e_api_Attr y2_3_5)) rfl Try.underlying24 rfl rfl rfl rfl) rfl) ?_
      refine OpsOk.cons rfl (.v (VOk.lenL (e := e_api_Attr) (xs := y2_3_5) rfl Try.underlying24 rfl) rfl) ?_
      refine OpsOk.cons rfl (.v (VOk.arith (op := .lss) (k := .i64) (a := x6_1) (b := (y2_3_5.length : Int)) rfl rfl rfl rfl) rfl) ?_
      exact .done (.mk ⟨.same _, .same _, .same _, .same _, trivial⟩ ⟨.same _, .same _, trivial⟩)
    refine Ok.test (b := (decide (x6_1 < (y2_3_5.length : Int)))) rfl (fun hb23 => ?_) (fun hb23 => ?_)
    · replace H := ifT H hb23
      refine Ok.le (σ' := ⟨[(2, (.bref 2 0)), (3, (.bref 3 0)), (6, (.v (.int .i64 x6_1)))], [(2, (.box true [(.v (.int .i64 y2_0_2)), (S y2_1_3), (S y2_2_4), (L 3 e_api_Attr y2_3_5), (L 6 e_api_Node y2_4_6), (S y2_5_7)])), (3, (.box true [(S y3_0_8), (S y3_1_9)]))]⟩) (.mk ⟨.same _, .same _, .same _, trivial⟩ ⟨.same _, .same _, trivial⟩) ?_
      refine Ok.skip ?_
      refine Ok.seq ?_
      refine Ok.block ?_
      refine Ok.seq ?_
      obtain ⟨c20, H⟩ := assertE H
      refine Ok.drawE (σ' := ⟨[(2, (.bref 2 0)), (3, (.bref 3 0)), (6, (.v (.int .i64 x6_1))), (21, (.v (.bool (((rd y2_3_5 x6_1).Name).Space == (T_api_Name.mk y3_0_8 y3_1_9).Space && (((rd y2_3_5 x6_1).Name).Local == (T_api_Name.mk y3_0_8 y3_1_9).Local && true)))))], [(2, (.box true [(.v (.int .i64 y2_0_2)), (S y2_1_3), (S y2_2_4), (L 3 e_api_Attr y2_3_5), (L 6 e_api_Node y2_4_6), (S y2_5_7)])), (3, (.box true [(S y3_0_8), (S y3_1_9)]))]⟩) [⟨true, [(2, (.bref 2 0))], (.bref 2 3)⟩, ⟨true, [(14, (.bref 2 3))], (L 3 e_api_Attr y2_3_5)⟩, ⟨true, [(6, (.v (.int .i64 x6_1)))], (.v (.int .i64 x6_1))⟩, ⟨true, [(15, (L 3 e_api_Attr y2_3_5)), (16, (.v (.int .i64 x6_1)))], (.fp (e_api_Attr (rd y2_3_5 x6_1)) 0)⟩, ⟨true, [(17, (.fp (e_api_Attr (rd y2_3_5 x6_1)) 0))], (.fp (e_api_Attr (rd y2_3_5 x6_1)) 0)⟩, ⟨true, [(18, (.fp (e_api_Attr (rd y2_3_5 x6_1)) 0))], (.agg (e_api_Name ((rd y2_3_5 x6_1).Name)))⟩, ⟨true, [(3, (.bref 3 0))], (.agg (e_api_Name (T_api_Name.mk y3_0_8 y3_1_9)))⟩, ⟨true, [(19, (.agg (e_api_Name ((rd y2_3_5 x6_1).Name)))), (20, (.agg (e_api_Name (T_api_Name.mk y3_0_8 y3_1_9))))], (.v (.bool (((rd y2_3_5 x6_1).Name).Space == (T_api_Name.mk y3_0_8 y3_1_9).Space && (((rd y2_3_5 x6_1).Name).Local == (T_api_Name.mk y3_0_8 y3_1_9).Local && true))))⟩] [[], [0], [], [1, 2], [3], [4], [], [5, 6]] mixed (by kernel_rfl) ?_ ?_
      · refine TxtE.cons rfl ⟨.same _, trivial⟩ rfl (VOk.g (VOk.to (VOk.fieldB rfl Try.underlying27 rfl sz24 rfl rfl) rfl)) ?_
        refine TxtE.cons rfl ⟨.same _, trivial⟩ rfl (VOk.g (VOk.loadB (d := (L 3 e_api_Attr y2_3_5)) rfl Try.underlying24 rfl rfl rfl rfl)) ?_
        refine TxtE.cons rfl ⟨.same _, trivial⟩ rfl (VOk.g (VOk.mv (d := (.v (.int .i64 x6_1))) rfl rfl)) ?_
        refine TxtE.cons rfl ⟨.same _, .same _, trivial⟩ rfl (VOk.g (VOk.indexL (sz := 3) (e := e_api_Attr) (xs := y2_3_5) (i := x6_1) rfl Try.underlying24 sz56 rfl rfl c20)) ?_
        refine TxtE.cons rfl ⟨.same _, trivial⟩ rfl (VOk.g (VOk.to (VOk.fieldFp rfl Try.underlying56 rfl sz23 rfl) rfl)) ?_
        refine TxtE.cons rfl ⟨.same _, trivial⟩ rfl (VOk.g (VOk.to (d' := (.agg (e_api_Name ((rd y2_3_5 x6_1).Name)))) (.loadFpAgg rfl Try.underlying23 rfl sz23 rfl rfl) rfl)) ?_
        refine TxtE.cons rfl ⟨.same _, trivial⟩ rfl (VOk.g (VOk.to (d' := (.agg (e_api_Name (T_api_Name.mk y3_0_8 y3_1_9)))) (.loadBAgg rfl Try.underlying23 rfl sz23 rfl rfl rfl) rfl)) ?_
        refine TxtE.cons rfl ⟨.same _, .same _, trivial⟩ rfl (VOk.g (VOk.eqS' (op := .eql) (d := (.v (.bool (((rd y2_3_5 x6_1).Name).Space == (T_api_Name.mk y3_0_8 y3_1_9).Space && (((rd y2_3_5 x6_1).Name).Local == (T_api_Name.mk y3_0_8 y3_1_9).Local && true))))) rfl (.inl rfl) (eqt23 9998) ag23 eg23 rfl rfl rfl rfl)) ?_
        exact .done (.mk ⟨.same _, .same _, .same _, .same _, trivial⟩ ⟨.same _, .same _, trivial⟩)
      refine Ok.test (b := (((rd y2_3_5 x6_1).Name).Space == (T_api_Name.mk y3_0_8 y3_1_9).Space && (((rd y2_3_5 x6_1).Name).Local == (T_api_Name.mk y3_0_8 y3_1_9).Local && true))) rfl (fun hb22 => ?_) (fun hb22 => ?_)
      · replace H := ifT H hb22
        refine Ok.seq ?_
        obtain ⟨c21, H⟩ := assertE H
        refine Ok.region (σ' := ⟨[(4, (S ((rd y2_3_5 x6_1).Value))), (5, (.v (.bool true)))], []⟩) ?_ ?_
        · refine OpsOk.cons rfl (.v (VOk.to (VOk.fieldB rfl Try.underlying27 rfl sz24 rfl rfl) rfl) rfl) ?_
          refine OpsOk.cons rfl (.v (VOk.loadB (d := (L 3 e_api_Attr y2_3_5)) rfl Try.underlying24 rfl rfl rfl rfl) rfl) ?_
          refine OpsOk.cons rfl (.v (VOk.mv (d := (.v (.int .i64 x6_1))) rfl rfl) rfl) ?_
          refine OpsOk.cons rfl (.v (VOk.indexL (sz := 3) (e := e_api_Attr) (xs := y2_3_5) (i := x6_1) rfl Try.underlying24 sz56 rfl rfl c21) rfl) ?_
          refine OpsOk.cons rfl (.v (VOk.to (VOk.fieldFp rfl Try.underlying56 rfl sz9 rfl) rfl) rfl) ?_
          refine OpsOk.cons rfl (.v (VOk.loadFp (d := (S ((rd y2_3_5 x6_1).Value))) rfl Try.underlying9 rfl rfl rfl) rfl) ?_
          refine OpsOk.cons rfl (.v (VOk.asg (d := (S ((rd y2_3_5 x6_1).Value))) rfl rfl) rfl) ?_
          refine OpsOk.cons rfl (.v (VOk.asg (d := (.v (.bool true))) rfl rfl) rfl) ?_
          exact .done (.mk ⟨.same _, .same _, trivial⟩ trivial)
        refine Ok.le (σ' := ⟨[(4, (S ((rd y2_3_5 x6_1).Value))), (5, (.v (.bool true)))], []⟩) (.mk ⟨.same _, .same _, trivial⟩ trivial) ?_
        refine Ok.ret ?_
        obtain rfl := Option.some.inj H
        exact ⟨.inl rfl, ⟨_, (.cons (.tmp rfl) (.cons (.tmp rfl) .nil)), rfl⟩, trivial⟩
      · replace H := ifF H hb22
        refine Ok.le (σ' := ⟨[(2, (.bref 2 0)), (3, (.bref 3 0)), (6, (.v (.int .i64 x6_1)))], [(2, (.box true [(.v (.int .i64 y2_0_2)), (S y2_1_3), (S y2_2_4), (L 3 e_api_Attr y2_3_5), (L 6 e_api_Node y2_4_6), (S y2_5_7)])), (3, (.box true [(S y3_0_8), (S y3_1_9)]))]⟩) (.mk ⟨.same _, .same _, .same _, trivial⟩ ⟨.same _, .same _, trivial⟩) ?_
        refine Ok.skip ?_
        refine Ok.region (σ' := ⟨[(2, (.bref 2 0)), (3, (.bref 3 0)), (6, (.v (.int .i64 (IntKind.i64.wrap (x6_1 + 1)))))], [(2, (.box true [(.v (.int .i64 y2_0_2)), (S y2_1_3), (S y2_2_4), (L 3 e_api_Attr y2_3_5), (L 6 e_api_Node y2_4_6), (S y2_5_7)])), (3, (.box true [(S y3_0_8), (S y3_1_9)]))]⟩) ?_ ?_
        · refine OpsOk.cons rfl (.v (VOk.mv (d := (.v (.int .i64 x6_1))) rfl rfl) rfl) ?_
          refine OpsOk.cons rfl (.v (VOk.arith (op := .add) (k := .i64) (a := x6_1) (b := 1) rfl rfl rfl rfl) rfl) ?_
          refine OpsOk.cons rfl (.v (VOk.asg (d := (.v (.int .i64 (IntKind.i64.wrap (x6_1 + 1))))) rfl rfl) rfl) ?_
          exact .done (.mk ⟨.same _, .same _, .same _, trivial⟩ ⟨.same _, .same _, trivial⟩)
        exact ⟨m19, Nat.lt_succ_self m19, y2_0_2, y2_1_3, y2_2_4, y2_3_5, y2_4_6, y2_5_7, y3_0_8, y3_1_9, (IntKind.i64.wrap (x6_1 + 1)), rfl, H⟩
    · replace H := ifF H hb23
      refine Ok.le (σ' := ⟨[], []⟩) (.mk trivial trivial) ?_
      refine Ok.exit ?_
      refine Ok.seq ?_
      refine Ok.region (σ' := ⟨[(4, (S ([] : Str))), (5, (.v (.bool false)))], []⟩) ?_ ?_
      · refine OpsOk.cons rfl (.v (VOk.asg (d := (S ([] : Str))) rfl rfl) rfl) ?_
        refine OpsOk.cons rfl (.v (VOk.asg (d := (.v (.bool false))) rfl rfl) rfl) ?_
        exact .done (.mk ⟨.same _, .same _, trivial⟩ trivial)
      refine Ok.le (σ' := ⟨[(4, (S ([] : Str))), (5, (.v (.bool false)))], []⟩) (.mk ⟨.same _, .same _, trivial⟩ trivial) ?_
      refine Ok.ret ?_
      obtain rfl := Option.some.inj H
      exact ⟨.inl rfl, ⟨_, (.cons (.tmp rfl) (.cons (.tmp rfl) .nil)), rfl⟩, trivial⟩

/-! watchbill/watchbillref12.Fits: function 13 -/
def watchbillref12_Fits.l0 (k : Nat) (a1 : Int) : Nat → Int → Str → Str → List T_api_Attr → List T_api_Node → Str → Int → Bool → Str → Str → Int → Bool → Str → Str → Str → Int → Int → Option Bool
  | 0, _, _, _, _, _, _, _, _, _, _, _, _, _, _, _, _, _ => none
  | m39 + 1, y3_0_7, y3_1_8, y3_2_9, y3_3_10, y3_4_11, y3_5_12, y5_0_13, y5_1_14, y5_2_15, y5_3_16, y5_4_17, y5_5_18, y5_6_19, y5_7_20, y5_8_21, x7_5, x8_6 => (if (decide (x8_6 ≤ a1)) = true then (if (0 : Int) ≤ x8_6 ∧ x8_6 < (y3_4_11.length : Int) then (if ((((((rd y3_4_11 x8_6).Kind) == 1) == true) && (y5_1_14 == false)) = true → (0 : Int) ≤ x8_6 ∧ x8_6 < (y3_4_11.length : Int)) then (if ((((rd y3_4_11 x8_6).Kind) == 1) && (y5_1_14 || (((rd y3_4_11 x8_6).Name).Space == (T_api_Name.mk y5_2_15 y5_3_16).Space && (((rd y3_4_11 x8_6).Name).Local == (T_api_Name.mk y5_2_15 y5_3_16).Local && true)))) = true then watchbillref12_Fits.l0 k a1 m39 y3_0_7 y3_1_8 y3_2_9 y3_3_10 y3_4_11 y3_5_12 y5_0_13 y5_1_14 y5_2_15 y5_3_16 y5_4_17 y5_5_18 y5_6_19 y5_7_20 y5_8_21 (IntKind.i64.wrap (x7_5 + 1)) (IntKind.i64.wrap (x8_6 + 1)) else watchbillref12_Fits.l0 k a1 m39 y3_0_7 y3_1_8 y3_2_9 y3_3_10 y3_4_11 y3_5_12 y5_0_13 y5_1_14 y5_2_15 y5_3_16 y5_4_17 y5_5_18 y5_6_19 y5_7_20 y5_8_21 x7_5 (IntKind.i64.wrap (x8_6 + 1))) else none) else none) else (if (0 : Int) ≤ a1 ∧ a1 < (y3_4_11.length : Int) then (if (((((rd y3_4_11 a1).Kind) != 1) || ((!y5_1_14) && (!(((rd y3_4_11 a1).Name).Space == (T_api_Name.mk y5_2_15 y5_3_16).Space && (((rd y3_4_11 a1).Name).Local == (T_api_Name.mk y5_2_15 y5_3_16).Local && true))))) || ((y5_4_17 != 0) && (y5_4_17 != x7_5))) = true then some false else ((watchbillref04_Get k (rd y3_4_11 a1) (T_api_Name.mk y5_6_19 y5_7_20)).bind fun (t56 : Str × Bool) => some ((!y5_5_18) || (t56.2 && (t56.1 == y5_8_21))))) else none))
def watchbillref12_Fits (k : Nat) (a0 : T_api_Node) (a1 : Int) (a2 : T_api_Step) : Option Bool := (if (((a2.Kind != 1) || (decide (a1 < 0))) || (decide (a1 ≥ (a0.Kids.length : Int)))) = true then some false else watchbillref12_Fits.l0 k a1 k a0.Kind a0.Name.Space a0.Name.Local a0.Attrs a0.Kids a0.Text a2.Kind a2.Any a2.Name.Space a2.Name.Local a2.Pos a2.By a2.Attr.Space a2.Attr.Local a2.Value 0 0)
theorem watchbillref12_Fits.ok {k : Nat} {a0 : T_api_Node} {a1 : Int} {a2 : T_api_Step} {r : Bool} (H : watchbillref12_Fits k a0 a1 a2 = some r) : Vx.Fn Try.prog 13 [(.agg (e_api_Node a0)), (.v (.int .i64 a1)), (.agg (e_api_Step a2))] [] (.v (.bool r)) [] := by
  unfold watchbillref12_Fits at H
  refine Vx.Fn.of_okR Try.func13 rfl (Nat.le_of_ble_eq_true rfl) ?_
  refine Ok.seq ?_
  refine Ok.region (σ' := ⟨[(1, (.v (.int .i64 a1))), (3, (.bref 3 0)), (5, (.bref 5 0))], [(3, (.box true [(.v (.int .i64 a0.Kind)), (S a0.Name.Space), (S a0.Name.Local), (L 3 e_api_Attr a0.Attrs), (L 6 e_api_Node a0.Kids), (S a0.Text)])), (5, (.box true [(.v (.int .i64 a2.Kind)), (.v (.bool a2.Any)), (S a2.Name.Space), (S a2.Name.Local), (.v (.int .i64 a2.Pos)), (.v (.bool a2.By)), (S a2.Attr.Space), (S a2.Attr.Local), (S a2.Value)]))]⟩) ?_ ?_
  · refine OpsOk.cut (σ := ⟨[(0, (.agg [(.v (.int .i64 a0.Kind)), (S a0.Name.Space), (S a0.Name.Local), (L 3 e_api_Attr a0.Attrs), (L 6 e_api_Node a0.Kids), (S a0.Text)])), (1, (.v (.int .i64 a1))), (2, (.agg (e_api_Step a2)))], []⟩) (.mk ⟨DLe.of_eq (congrArg D.agg (e_api_Node_c _).symm), .same _, .same _, trivial⟩ trivial) ?_
    refine OpsOk.cons rfl (OpOk.box 3 (cells := [(.v (.int .i64 a0.Kind)), (S a0.Name.Space), (S a0.Name.Local), (L 3 e_api_Attr a0.Attrs), (L 6 e_api_Node a0.Kids), (S a0.Text)]) rfl rfl rfl rfl) ?_
    refine OpsOk.cons rfl (OpOk.box 5 (cells := [(.v (.int .i64 a2.Kind)), (.v (.bool a2.Any)), (S a2.Name.Space), (S a2.Name.Local), (.v (.int .i64 a2.Pos)), (.v (.bool a2.By)), (S a2.Attr.Space), (S a2.Attr.Local), (S a2.Value)]) rfl rfl rfl rfl) ?_
    refine OpsOk.cons rfl (.v (VOk.asg (d := (.v (.bool false))) rfl rfl) rfl) ?_
    exact .done (.mk ⟨.same _, .same _, .same _, trivial⟩ ⟨.same _, .same _, trivial⟩)
  refine Ok.seq ?_
  refine Ok.seq ?_
  refine Ok.region (σ' := ⟨[(1, (.v (.int .i64 a1))), (3, (.bref 3 0)), (5, (.bref 5 0)), (25, (.v (.bool (((a2.Kind != 1) || (decide (a1 < 0))) || (decide (a1 ≥ (a0.Kids.length : Int)))))))], [(3, (.box true [(.v (.int .i64 a0.Kind)), (S a0.Name.Space), (S a0.Name.Local), (L 3 e_api_Attr a0.Attrs), (L 6 e_api_Node a0.Kids), (S a0.Text)])), (5, (.box true [(.v (.int .i64 a2.Kind)), (.v (.bool a2.Any)), (S a2.Name.Space), (S a2.Name.Local), (.v (.int .i64 a2.Pos)), (.v (.bool a2.By)), (S a2.Attr.Space), (S a2.Attr.Local), (S a2.Value)]))]⟩) ?_ ?_
  · refine OpsOk.cons rfl (.v (VOk.to (VOk.fieldB rfl Try.underlying30 rfl sz3 rfl rfl) rfl) rfl) ?_
    refine OpsOk.cons rfl (.v (VOk.loadB (d := (.v (.int .i64 a2.Kind))) rfl Try.underlying3 rfl rfl rfl rfl) rfl) ?_
    refine OpsOk.cons rfl (.v (VOk.arith (op := .neq) (k := .i64) (a := a2.Kind) (b := 1) rfl rfl rfl rfl) rfl) ?_
    refine OpsOk.cons rfl (.v (VOk.mv (d := (.v (.bool (a2.Kind != 1)))) rfl rfl) rfl) ?_
    refine OpsOk.consI rfl rfl rfl (.one rfl) rfl (fun hw1 => (VOk.g (VOk.mv (d := (.v (.int .i64 a1))) rfl rfl))) ?_
    refine OpsOk.consI rfl rfl rfl (.one rfl) rfl (fun hw1 => (GOk.fr (fr' := [(16, (.v (.int .i64 a1)))]) ⟨DLe.of_eq (cT hw1).symm, trivial⟩ (VOk.g (VOk.arith (op := .lss) (k := .i64) (a := a1) (b := 0) rfl rfl rfl rfl)))) ?_
    refine OpsOk.cons rfl (.v (VOk.to (VOk.pickI (b := (a2.Kind != 1)) (p := true) (q := (decide (a1 < 0))) rfl rfl (fun hp2 => rfl) (fun hp2 => (cT (f_beq hp2)))) (pickOr (a2.Kind != 1) (decide (a1 < 0)))) rfl) ?_
    refine OpsOk.cons rfl (.v (VOk.mv (d := (.v (.bool ((a2.Kind != 1) || (decide (a1 < 0)))))) rfl rfl) rfl) ?_
    refine OpsOk.consI rfl rfl rfl (.one rfl) rfl (fun hw3 => (VOk.g (VOk.mv (d := (.v (.int .i64 a1))) rfl rfl))) ?_
    refine OpsOk.consI rfl rfl rfl (.one rfl) rfl (fun hw3 => (VOk.g (VOk.to (VOk.fieldB rfl Try.underlying27 rfl sz25 rfl rfl) rfl))) ?_
    refine OpsOk.consI rfl rfl rfl (.one rfl) rfl (fun hw3 => (GOk.fr (fr' := [(21, (.bref 3 4))]) ⟨DLe.of_eq (cT hw3).symm, trivial⟩ (VOk.g (VOk.loadB (d := (L 6 e_api_Node a0.Kids)) rfl Try.underlying25 rfl rfl rfl rfl)))) ?_
    refine OpsOk.consI rfl rfl rfl (.one rfl) rfl (fun hw3 => (GOk.fr (fr' := [(22, (L 6 e_api_Node a0.Kids))]) ⟨DLe.of_eq (cT hw3).symm, trivial⟩ (VOk.g (VOk.lenL (e := e_api_Node) (xs := a0.Kids) rfl Try.underlying25 rfl)))) ?_
    refine OpsOk.consI rfl rfl rfl (.one rfl) rfl (fun hw3 => (GOk.fr (fr' := [(20, (.v (.int .i64 a1))), (23, (.v (.int .i64 (a0.Kids.length : Int))))]) ⟨DLe.of_eq (cT hw3).symm, DLe.of_eq (cT hw3).symm, trivial⟩ (VOk.g (VOk.arith (op := .geq) (k := .i64) (a := a1) (b := (a0.Kids.length : Int)) rfl rfl rfl rfl)))) ?_
    refine OpsOk.cons rfl (.v (VOk.to (VOk.pickI (b := ((a2.Kind != 1) || (decide (a1 < 0)))) (p := true) (q := (decide (a1 ≥ (a0.Kids.length : Int)))) rfl rfl (fun hp4 => rfl) (fun hp4 => (cT (f_beq hp4)))) (pickOr ((a2.Kind != 1) || (decide (a1 < 0))) (decide (a1 ≥ (a0.Kids.length : Int))))) rfl) ?_
    exact .done (.mk ⟨.same _, .same _, .same _, .same _, trivial⟩ ⟨.same _, .same _, trivial⟩)
  refine Ok.test (b := (((a2.Kind != 1) || (decide (a1 < 0))) || (decide (a1 ≥ (a0.Kids.length : Int))))) rfl (fun hb64 => ?_) (fun hb64 => ?_)
  · replace H := ifT H hb64
    refine Ok.seq ?_
    refine Ok.region (σ' := ⟨[(6, (.v (.bool false)))], []⟩) ?_ ?_
    · refine OpsOk.cons rfl (.v (VOk.asg (d := (.v (.bool false))) rfl rfl) rfl) ?_
      exact .done (.mk ⟨.same _, trivial⟩ trivial)
    refine Ok.le (σ' := ⟨[(6, (.v (.bool false)))], []⟩) (.mk ⟨.same _, trivial⟩ trivial) ?_
    refine Ok.ret ?_
    obtain rfl := Option.some.inj H
    exact ⟨.inl rfl, ⟨_, (.cons (.tmp rfl) .nil), rfl⟩, trivial⟩
  · replace H := ifF H hb64
    refine Ok.le (σ' := ⟨[(1, (.v (.int .i64 a1))), (3, (.bref 3 0)), (5, (.bref 5 0))], [(3, (.box true [(.v (.int .i64 a0.Kind)), (S a0.Name.Space), (S a0.Name.Local), (L 3 e_api_Attr a0.Attrs), (L 6 e_api_Node a0.Kids), (S a0.Text)])), (5, (.box true [(.v (.int .i64 a2.Kind)), (.v (.bool a2.Any)), (S a2.Name.Space), (S a2.Name.Local), (.v (.int .i64 a2.Pos)), (.v (.bool a2.By)), (S a2.Attr.Space), (S a2.Attr.Local), (S a2.Value)]))]⟩) (.mk ⟨.same _, .same _, .same _, trivial⟩ ⟨.same _, .same _, trivial⟩) ?_
    refine Ok.skip ?_
    refine Ok.seq ?_
    refine Ok.region (σ' := ⟨[(1, (.v (.int .i64 a1))), (3, (.bref 3 0)), (5, (.bref 5 0)), (7, (.v (.int .i64 0)))], [(3, (.box true [(.v (.int .i64 a0.Kind)), (S a0.Name.Space), (S a0.Name.Local), (L 3 e_api_Attr a0.Attrs), (L 6 e_api_Node a0.Kids), (S a0.Text)])), (5, (.box true [(.v (.int .i64 a2.Kind)), (.v (.bool a2.Any)), (S a2.Name.Space), (S a2.Name.Local), (.v (.int .i64 a2.Pos)), (.v (.bool a2.By)), (S a2.Attr.Space), (S a2.Attr.Local), (S a2.Value)]))]⟩) ?_ ?_
    · refine OpsOk.cons rfl (.v (VOk.asg (d := (.v (.int .i64 0))) rfl rfl) rfl) ?_
      exact .done (.mk ⟨.same _, .same _, .same _, .same _, trivial⟩ ⟨.same _, .same _, trivial⟩)
    refine Ok.seq ?_
    refine Ok.seq ?_
    refine Ok.region (σ' := ⟨[(1, (.v (.int .i64 a1))), (3, (.bref 3 0)), (5, (.bref 5 0)), (7, (.v (.int .i64 0))), (8, (.v (.int .i64 0)))], [(3, (.box true [(.v (.int .i64 a0.Kind)), (S a0.Name.Space), (S a0.Name.Local), (L 3 e_api_Attr a0.Attrs), (L 6 e_api_Node a0.Kids), (S a0.Text)])), (5, (.box true [(.v (.int .i64 a2.Kind)), (.v (.bool a2.Any)), (S a2.Name.Space), (S a2.Name.Local), (.v (.int .i64 a2.Pos)), (.v (.bool a2.By)), (S a2.Attr.Space), (S a2.Attr.Local), (S a2.Value)]))]⟩) ?_ ?_
    · refine OpsOk.cons rfl (.v (VOk.asg (d := (.v (.int .i64 0))) rfl rfl) rfl) ?_
      exact .done (.mk ⟨.same _, .same _, .same _, .same _, .same _, trivial⟩ ⟨.same _, .same _, trivial⟩)
    refine Ok.block ?_
    refine Ok.le (σ' := ⟨[(1, (.v (.int .i64 a1))), (3, (.bref 3 0)), (5, (.bref 5 0)), (7, (.v (.int .i64 0))), (8, (.v (.int .i64 0)))], [(3, (.box true [(.v (.int .i64 a0.Kind)), (S a0.Name.Space), (S a0.Name.Local), (L 3 e_api_Attr a0.Attrs), (L 6 e_api_Node a0.Kids), (S a0.Text)])), (5, (.box true [(.v (.int .i64 a2.Kind)), (.v (.bool a2.Any)), (S a2.Name.Space), (S a2.Name.Local), (.v (.int .i64 a2.Pos)), (.v (.bool a2.By)), (S a2.Attr.Space), (S a2.Attr.Local), (S a2.Value)]))]⟩) (.mk ⟨.same _, .same _, .same _, .same _, .same _, trivial⟩ ⟨.same _, .same _, trivial⟩) ?_
    refine Ok.loop (fun m39 σ => ∃ (y3_0_7 : Int) (y3_1_8 : Str) (y3_2_9 : Str) (y3_3_10 : List T_api_Attr) (y3_4_11 : List T_api_Node) (y3_5_12 : Str) (y5_0_13 : Int) (y5_1_14 : Bool) (y5_2_15 : Str) (y5_3_16 : Str) (y5_4_17 : Int) (y5_5_18 : Bool) (y5_6_19 : Str) (y5_7_20 : Str) (y5_8_21 : Str) (x7_5 : Int) (x8_6 : Int), σ = ⟨[(1, (.v (.int .i64 a1))), (3, (.bref 3 0)), (5, (.bref 5 0)), (7, (.v (.int .i64 x7_5))), (8, (.v (.int .i64 x8_6)))], [(3, (.box true [(.v (.int .i64 y3_0_7)), (S y3_1_8), (S y3_2_9), (L 3 e_api_Attr y3_3_10), (L 6 e_api_Node y3_4_11), (S y3_5_12)])), (5, (.box true [(.v (.int .i64 y5_0_13)), (.v (.bool y5_1_14)), (S y5_2_15), (S y5_3_16), (.v (.int .i64 y5_4_17)), (.v (.bool y5_5_18)), (S y5_6_19), (S y5_7_20), (S y5_8_21)]))]⟩ ∧ watchbillref12_Fits.l0 k a1 m39 y3_0_7 y3_1_8 y3_2_9 y3_3_10 y3_4_11 y3_5_12 y5_0_13 y5_1_14 y5_2_15 y5_3_16 y5_4_17 y5_5_18 y5_6_19 y5_7_20 y5_8_21 x7_5 x8_6 = some r) k ⟨a0.Kind, a0.Name.Space, a0.Name.Local, a0.Attrs, a0.Kids, a0.Text, a2.Kind, a2.Any, a2.Name.Space, a2.Name.Local, a2.Pos, a2.By, a2.Attr.Space, a2.Attr.Local, a2.Value, 0, 0, rfl, H⟩ ?_
    rintro m39 σ ⟨y3_0_7, y3_1_8, y3_2_9, y3_3_10, y3_4_11, y3_5_12, y5_0_13, y5_1_14, y5_2_15, y5_3_16, y5_4_17, y5_5_18, y5_6_19, y5_7_20, y5_8_21, x7_5, x8_6, rfl, H⟩
    cases m39 with
    | zero => exact absurd H (by simp [watchbillref12_Fits.l0])
    | succ m39 =>
      unfold watchbillref12_Fits.l0 at H
      refine Ok.seq ?_
      refine Ok.seq ?_
      refine Ok.region (σ' := ⟨[(1, (.v (.int .i64 a1))), (3, (.bref 3 0)), (5, (.bref 5 0)), (7, (.v (.int .i64 x7_5))), (8, (.v (.int .i64 x8_6))), (28, (.v (.bool (decide (x8_6 ≤ a1)))))], [(3, (.box true [(.v (.int .i64 y3_0_7)), (S y3_1_8), (S y3_2_9), (L 3 e_api_Attr y3_3_10), (L 6 e_api_Node y3_4_11), (S y3_5_12)])), (5, (.box true [(.v (.int .i64 y5_0_13)), (.v (.bool y5_1_14)), (S y5_2_15), (S y5_3_16), (.v (.int .i64 y5_4_17)), (.v (.bool y5_5_18)), (S y5_6_19), (S y5_7_20), (S y5_8_21)]))]⟩) ?_ ?_
      · refine OpsOk.cons rfl (.v (VOk.mv (d := (.v (.int .i64 x8_6))) rfl rfl) rfl) ?_
        refine OpsOk.cons rfl (.v (VOk.mv (d := (.v (.int .i64 a1))) rfl rfl) rfl) ?_
        refine OpsOk.cons rfl (.v (VOk.arith (op := .leq) (k := .i64) (a := x8_6) (b := a1) rfl rfl rfl rfl) rfl) ?_
        exact .done (.mk ⟨.same _, .same _, .same _, .same _, .same _, .same _, trivial⟩ ⟨.same _, .same _, trivial⟩)
      refine Ok.test (b := (decide (x8_6 ≤ a1))) rfl (fun hb63 => ?_) (fun hb63 => ?_)
      · replace H := ifT H hb63
        refine Ok.le (σ' := ⟨[(1, (.v (.int .i64 a1))), (3, (.bref 3 0)), (5, (.bref 5 0)), (7, (.v (.int .i64 x7_5))), (8, (.v (.int .i64 x8_6)))], [(3, (.box true [(.v (.int .i64 y3_0_7)), (S y3_1_8), (S y3_2_9), (L 3 e_api_Attr y3_3_10), (L 6 e_api_Node y3_4_11), (S y3_5_12)])), (5, (.box true [(.v (.int .i64 y5_0_13)), (.v (.bool y5_1_14)), (S y5_2_15), (S y5_3_16), (.v (.int .i64 y5_4_17)), (.v (.bool y5_5_18)), (S y5_6_19), (S y5_7_20), (S y5_8_21)]))]⟩) (.mk ⟨.same _, .same _, .same _, .same _, .same _, trivial⟩ ⟨.same _, .same _, trivial⟩) ?_
        refine Ok.skip ?_
        refine Ok.seq ?_
        refine Ok.block ?_
        refine Ok.seq ?_
        obtain ⟨c40, H⟩ := assertE H
        obtain ⟨c43, H⟩ := assertE H
        refine Ok.drawE (σ' := ⟨[(1, (.v (.int .i64 a1))), (3, (.bref 3 0)), (5, (.bref 5 0)), (7, (.v (.int .i64 x7_5))), (8, (.v (.int .i64 x8_6))), (52, (.v (.bool ((((rd y3_4_11 x8_6).Kind) == 1) && (y5_1_14 || (((rd y3_4_11 x8_6).Name).Space == (T_api_Name.mk y5_2_15 y5_3_16).Space && (((rd y3_4_11 x8_6).Name).Local == (T_api_Name.mk y5_2_15 y5_3_16).Local && true)))))))], [(3, (.box true [(.v (.int .i64 y3_0_7)), (S y3_1_8), (S y3_2_9), (L 3 e_api_Attr y3_3_10), (L 6 e_api_Node y3_4_11), (S y3_5_12)])), (5, (.box true [(.v (.int .i64 y5_0_13)), (.v (.bool y5_1_14)), (S y5_2_15), (S y5_3_16), (.v (.int .i64 y5_4_17)), (.v (.bool y5_5_18)), (S y5_6_19), (S y5_7_20), (S y5_8_21)]))]⟩) [⟨true, [(3, (.bref 3 0))], (.bref 3 4)⟩, ⟨true, [(31, (.bref 3 4))], (L 6 e_api_Node y3_4_11)⟩, ⟨true, [(8, (.v (.int .i64 x8_6)))], (.v (.int .i64 x8_6))⟩, ⟨true, [(32, (L 6 e_api_Node y3_4_11)), (33, (.v (.int .i64 x8_6)))], (.fp (e_api_Node (rd y3_4_11 x8_6)) 0)⟩, ⟨true, [(34, (.fp (e_api_Node (rd y3_4_11 x8_6)) 0))], (.fp (e_api_Node (rd y3_4_11 x8_6)) 0)⟩, ⟨true, [(35, (.fp (e_api_Node (rd y3_4_11 x8_6)) 0))], (.v (.int .i64 ((rd y3_4_11 x8_6).Kind)))⟩, ⟨true, [(36, (.v (.int .i64 ((rd y3_4_11 x8_6).Kind))))], (.v (.bool (((rd y3_4_11 x8_6).Kind) == 1)))⟩, ⟨true, [(37, (.v (.bool (((rd y3_4_11 x8_6).Kind) == 1))))], (.v (.bool (((rd y3_4_11 x8_6).Kind) == 1)))⟩, It.I ((((rd y3_4_11 x8_6).Kind) == 1) == true) [(5, (.bref 5 0)), (38, (.v (.bool (((rd y3_4_11 x8_6).Kind) == 1))))] (.bref 5 1), It.I ((((rd y3_4_11 x8_6).Kind) == 1) == true) [(39, (bif ((((rd y3_4_11 x8_6).Kind) == 1) == true) then (.bref 5 1) else .v undef)), (38, (.v (.bool (((rd y3_4_11 x8_6).Kind) == 1))))] (.v (.bool y5_1_14)), It.I ((((rd y3_4_11 x8_6).Kind) == 1) == true) [(40, (bif ((((rd y3_4_11 x8_6).Kind) == 1) == true) then (.v (.bool y5_1_14)) else .v undef)), (38, (.v (.bool (((rd y3_4_11 x8_6).Kind) == 1))))] (.v (.bool y5_1_14)), It.I (((((rd y3_4_11 x8_6).Kind) == 1) == true) && (y5_1_14 == false)) [(3, (.bref 3 0)), (41, (bif ((((rd y3_4_11 x8_6).Kind) == 1) == true) then (.v (.bool y5_1_14)) else .v undef))] (.bref 3 4), It.I (((((rd y3_4_11 x8_6).Kind) == 1) == true) && (y5_1_14 == false)) [(42, (bif (((((rd y3_4_11 x8_6).Kind) == 1) == true) && (y5_1_14 == false)) then (.bref 3 4) else .v undef)), (41, (bif ((((rd y3_4_11 x8_6).Kind) == 1) == true) then (.v (.bool y5_1_14)) else .v undef))] (L 6 e_api_Node y3_4_11), It.I (((((rd y3_4_11 x8_6).Kind) == 1) == true) && (y5_1_14 == false)) [(8, (.v (.int .i64 x8_6))), (41, (bif ((((rd y3_4_11 x8_6).Kind) == 1) == true) then (.v (.bool y5_1_14)) else .v undef))] (.v (.int .i64 x8_6)), It.I (((((rd y3_4_11 x8_6).Kind) == 1) == true) && (y5_1_14 == false)) [(43, (bif (((((rd y3_4_11 x8_6).Kind) == 1) == true) && (y5_1_14 == false)) then (L 6 e_api_Node y3_4_11) else .v undef)), (44, (bif (((((rd y3_4_11 x8_6).Kind) == 1) == true) && (y5_1_14 == false)) then (.v (.int .i64 x8_6)) else .v undef)), (41, (bif ((((rd y3_4_11 x8_6).Kind) == 1) == true) then (.v (.bool y5_1_14)) else .v undef))] (.fp (e_api_Node (rd y3_4_11 x8_6)) 0), It.I (((((rd y3_4_11 x8_6).Kind) == 1) == true) && (y5_1_14 == false)) [(45, (bif (((((rd y3_4_11 x8_6).Kind) == 1) == true) && (y5_1_14 == false)) then (.fp (e_api_Node (rd y3_4_11 x8_6)) 0) else .v undef)), (41, (bif ((((rd y3_4_11 x8_6).Kind) == 1) == true) then (.v (.bool y5_1_14)) else .v undef))] (.fp (e_api_Node (rd y3_4_11 x8_6)) 1), It.I (((((rd y3_4_11 x8_6).Kind) == 1) == true) && (y5_1_14 == false)) [(46, (bif (((((rd y3_4_11 x8_6).Kind) == 1) == true) && (y5_1_14 == false)) then (.fp (e_api_Node (rd y3_4_11 x8_6)) 1) else .v undef)), (41, (bif ((((rd y3_4_11 x8_6).Kind) == 1) == true) then (.v (.bool y5_1_14)) else .v undef))] (.agg (e_api_Name ((rd y3_4_11 x8_6).Name))), It.I (((((rd y3_4_11 x8_6).Kind) == 1) == true) && (y5_1_14 == false)) [(5, (.bref 5 0)), (41, (bif ((((rd y3_4_11 x8_6).Kind) == 1) == true) then (.v (.bool y5_1_14)) else .v undef))] (.bref 5 2), It.I (((((rd y3_4_11 x8_6).Kind) == 1) == true) && (y5_1_14 == false)) [(48, (bif (((((rd y3_4_11 x8_6).Kind) == 1) == true) && (y5_1_14 == false)) then (.bref 5 2) else .v undef)), (41, (bif ((((rd y3_4_11 x8_6).Kind) == 1) == true) then (.v (.bool y5_1_14)) else .v undef))] (.agg (e_api_Name (T_api_Name.mk y5_2_15 y5_3_16))), It.I (((((rd y3_4_11 x8_6).Kind) == 1) == true) && (y5_1_14 == false)) [(47, (bif (((((rd y3_4_11 x8_6).Kind) == 1) == true) && (y5_1_14 == false)) then (.agg (e_api_Name ((rd y3_4_11 x8_6).Name))) else .v undef)), (49, (bif (((((rd y3_4_11 x8_6).Kind) == 1) == true) && (y5_1_14 == false)) then (.agg (e_api_Name (T_api_Name.mk y5_2_15 y5_3_16))) else .v undef)), (41, (bif ((((rd y3_4_11 x8_6).Kind) == 1) == true) then (.v (.bool y5_1_14)) else .v undef))] (.v (.bool (((rd y3_4_11 x8_6).Name).Space == (T_api_Name.mk y5_2_15 y5_3_16).Space && (((rd y3_4_11 x8_6).Name).Local == (T_api_Name.mk y5_2_15 y5_3_16).Local && true)))), It.I ((((rd y3_4_11 x8_6).Kind) == 1) == true) [(41, (bif ((((rd y3_4_11 x8_6).Kind) == 1) == true) then (.v (.bool y5_1_14)) else .v undef)), (50, (bif (((((rd y3_4_11 x8_6).Kind) == 1) == true) && (y5_1_14 == false)) then (.v (.bool (((rd y3_4_11 x8_6).Name).Space == (T_api_Name.mk y5_2_15 y5_3_16).Space && (((rd y3_4_11 x8_6).Name).Local == (T_api_Name.mk y5_2_15 y5_3_16).Local && true)))) else .v undef)), (38, (.v (.bool (((rd y3_4_11 x8_6).Kind) == 1))))] (.v (.bool (y5_1_14 || (((rd y3_4_11 x8_6).Name).Space == (T_api_Name.mk y5_2_15 y5_3_16).Space && (((rd y3_4_11 x8_6).Name).Local == (T_api_Name.mk y5_2_15 y5_3_16).Local && true))))), ⟨true, [(38, (.v (.bool (((rd y3_4_11 x8_6).Kind) == 1)))), (51, (bif ((((rd y3_4_11 x8_6).Kind) == 1) == true) then (.v (.bool (y5_1_14 || (((rd y3_4_11 x8_6).Name).Space == (T_api_Name.mk y5_2_15 y5_3_16).Space && (((rd y3_4_11 x8_6).Name).Local == (T_api_Name.mk y5_2_15 y5_3_16).Local && true))))) else .v undef))], (.v (.bool ((((rd y3_4_11 x8_6).Kind) == 1) && (y5_1_14 || (((rd y3_4_11 x8_6).Name).Space == (T_api_Name.mk y5_2_15 y5_3_16).Space && (((rd y3_4_11 x8_6).Name).Local == (T_api_Name.mk y5_2_15 y5_3_16).Local && true))))))⟩] [[], [0], [], [1, 2], [3], [4], [5], [6], [7], [7, 8], [7, 9], [10], [10, 11], [10], [10, 12, 13], [10, 14], [10, 15], [10], [10, 17], [10, 16, 18], [7, 10, 19], [7, 20]] mixed (by kernel_rfl) ?_ ?_
        · refine TxtE.cons rfl ⟨.same _, trivial⟩ rfl (VOk.g (VOk.to (VOk.fieldB rfl Try.underlying27 rfl sz25 rfl rfl) rfl)) ?_
          refine TxtE.cons rfl ⟨.same _, trivial⟩ rfl (VOk.g (VOk.loadB (d := (L 6 e_api_Node y3_4_11)) rfl Try.underlying25 rfl rfl rfl rfl)) ?_
          refine TxtE.cons rfl ⟨.same _, trivial⟩ rfl (VOk.g (VOk.mv (d := (.v (.int .i64 x8_6))) rfl rfl)) ?_
          refine TxtE.cons rfl ⟨.same _, .same _, trivial⟩ rfl (VOk.g (VOk.indexL (sz := 6) (e := e_api_Node) (xs := y3_4_11) (i := x8_6) rfl Try.underlying25 sz27 rfl rfl c40)) ?_
          refine TxtE.cons rfl ⟨.same _, trivial⟩ rfl (VOk.g (VOk.to (VOk.fieldFp rfl Try.underlying27 rfl sz3 rfl) rfl)) ?_
          refine TxtE.cons rfl ⟨.same _, trivial⟩ rfl (VOk.g (VOk.loadFp (d := (.v (.int .i64 ((rd y3_4_11 x8_6).Kind)))) rfl Try.underlying3 rfl rfl rfl)) ?_
          refine TxtE.cons rfl ⟨.same _, trivial⟩ rfl (VOk.g (VOk.arith (op := .eql) (k := .i64) (a := (rd y3_4_11 x8_6).Kind) (b := 1) rfl rfl rfl rfl)) ?_
          refine TxtE.cons rfl ⟨.same _, trivial⟩ rfl (VOk.g (VOk.mv (d := (.v (.bool (((rd y3_4_11 x8_6).Kind) == 1)))) rfl rfl)) ?_
          refine TxtE.consI rfl ⟨.same _, .same _, trivial⟩ rfl rfl (.one rfl) (fun hw41 => (VOk.g (VOk.to (VOk.fieldB rfl Try.underlying30 rfl sz4 rfl rfl) rfl))) ?_
          refine TxtE.consI rfl ⟨.same _, .same _, trivial⟩ rfl rfl (.one rfl) (fun hw41 => (GOk.fr (fr' := [(39, (.bref 5 1))]) ⟨DLe.of_eq (cT hw41).symm, trivial⟩ (VOk.g (VOk.loadB (d := (.v (.bool y5_1_14))) rfl Try.underlying4 rfl rfl rfl rfl)))) ?_
          refine TxtE.consI rfl ⟨.same _, .same _, trivial⟩ rfl rfl (.one rfl) (fun hw41 => (GOk.fr (fr' := [(40, (.v (.bool y5_1_14)))]) ⟨DLe.of_eq (cT hw41).symm, trivial⟩ (VOk.g (VOk.mv (d := (.v (.bool y5_1_14))) rfl rfl)))) ?_
          refine TxtE.consI rfl ⟨.same _, .same _, trivial⟩ rfl rfl (.two rfl) (fun hw42 => (VOk.g (VOk.to (VOk.fieldB rfl Try.underlying27 rfl sz25 rfl rfl) rfl))) ?_
          refine TxtE.consI rfl ⟨.same _, .same _, trivial⟩ rfl rfl (.two rfl) (fun hw42 => (GOk.fr (fr' := [(42, (.bref 3 4))]) ⟨DLe.of_eq (cT hw42).symm, trivial⟩ (VOk.g (VOk.loadB (d := (L 6 e_api_Node y3_4_11)) rfl Try.underlying25 rfl rfl rfl rfl)))) ?_
          refine TxtE.consI rfl ⟨.same _, .same _, trivial⟩ rfl rfl (.two rfl) (fun hw42 => (VOk.g (VOk.mv (d := (.v (.int .i64 x8_6))) rfl rfl))) ?_
          refine TxtE.consI rfl ⟨.same _, .same _, .same _, trivial⟩ rfl rfl (.two rfl) (fun hw42 => (GOk.fr (fr' := [(43, (L 6 e_api_Node y3_4_11)), (44, (.v (.int .i64 x8_6)))]) ⟨DLe.of_eq (cT hw42).symm, DLe.of_eq (cT hw42).symm, trivial⟩ (VOk.g (VOk.indexL (sz := 6) (e := e_api_Node) (xs := y3_4_11) (i := x8_6) rfl Try.underlying25 sz27 rfl rfl (c43 hw42))))) ?_
          refine TxtE.consI rfl ⟨.same _, .same _, trivial⟩ rfl rfl (.two rfl) (fun hw42 => (GOk.fr (fr' := [(45, (.fp (e_api_Node (rd y3_4_11 x8_6)) 0))]) ⟨DLe.of_eq (cT hw42).symm, trivial⟩ (VOk.g (VOk.to (VOk.fieldFp rfl Try.underlying27 rfl sz23 rfl) rfl)))) ?_
          refine TxtE.consI rfl ⟨.same _, .same _, trivial⟩ rfl rfl (.two rfl) (fun hw42 => (GOk.fr (fr' := [(46, (.fp (e_api_Node (rd y3_4_11 x8_6)) 1))]) ⟨DLe.of_eq (cT hw42).symm, trivial⟩ (VOk.g (VOk.to (d' := (.agg (e_api_Name ((rd y3_4_11 x8_6).Name)))) (.loadFpAgg rfl Try.underlying23 rfl sz23 rfl rfl) rfl)))) ?_
          refine TxtE.consI rfl ⟨.same _, .same _, trivial⟩ rfl rfl (.two rfl) (fun hw42 => (VOk.g (VOk.to (VOk.fieldB rfl Try.underlying30 rfl sz23 rfl rfl) rfl))) ?_
          refine TxtE.consI rfl ⟨.same _, .same _, trivial⟩ rfl rfl (.two rfl) (fun hw42 => (GOk.fr (fr' := [(48, (.bref 5 2))]) ⟨DLe.of_eq (cT hw42).symm, trivial⟩ (VOk.g (VOk.to (d' := (.agg (e_api_Name (T_api_Name.mk y5_2_15 y5_3_16)))) (.loadBAgg rfl Try.underlying23 rfl sz23 rfl rfl rfl) rfl)))) ?_
          refine TxtE.consI rfl ⟨.same _, .same _, .same _, trivial⟩ rfl rfl (.two rfl) (fun hw42 => (GOk.fr (fr' := [(47, (.agg (e_api_Name ((rd y3_4_11 x8_6).Name)))), (49, (.agg (e_api_Name (T_api_Name.mk y5_2_15 y5_3_16))))]) ⟨DLe.of_eq (cT hw42).symm, DLe.of_eq (cT hw42).symm, trivial⟩ (VOk.g (VOk.eqS' (op := .eql) (d := (.v (.bool (((rd y3_4_11 x8_6).Name).Space == (T_api_Name.mk y5_2_15 y5_3_16).Space && (((rd y3_4_11 x8_6).Name).Local == (T_api_Name.mk y5_2_15 y5_3_16).Local && true))))) rfl (.inl rfl) (eqt23 9998) ag23 eg23 rfl rfl rfl rfl)))) ?_
          refine TxtE.consI rfl ⟨.same _, .same _, .same _, trivial⟩ rfl rfl (.one rfl) (fun hw41 => (VOk.g (VOk.to (VOk.pickI (b := y5_1_14) (p := true) (q := (((rd y3_4_11 x8_6).Name).Space == (T_api_Name.mk y5_2_15 y5_3_16).Space && (((rd y3_4_11 x8_6).Name).Local == (T_api_Name.mk y5_2_15 y5_3_16).Local && true))) rfl (cT hw41) (fun hp44 => rfl) (fun hp44 => (cT (and_i hw41 (f_beq hp44))))) (pickOr y5_1_14 (((rd y3_4_11 x8_6).Name).Space == (T_api_Name.mk y5_2_15 y5_3_16).Space && (((rd y3_4_11 x8_6).Name).Local == (T_api_Name.mk y5_2_15 y5_3_16).Local && true)))))) ?_
          refine TxtE.cons rfl ⟨.same _, .same _, trivial⟩ rfl (VOk.g (VOk.to (VOk.pickI (b := (((rd y3_4_11 x8_6).Kind) == 1)) (p := (y5_1_14 || (((rd y3_4_11 x8_6).Name).Space == (T_api_Name.mk y5_2_15 y5_3_16).Space && (((rd y3_4_11 x8_6).Name).Local == (T_api_Name.mk y5_2_15 y5_3_16).Local && true)))) (q := false) rfl rfl (fun hp45 => (cT (t_beq hp45))) (fun hp45 => rfl)) (pickAnd (((rd y3_4_11 x8_6).Kind) == 1) (y5_1_14 || (((rd y3_4_11 x8_6).Name).Space == (T_api_Name.mk y5_2_15 y5_3_16).Space && (((rd y3_4_11 x8_6).Name).Local == (T_api_Name.mk y5_2_15 y5_3_16).Local && true)))))) ?_
          exact .done (.mk ⟨.same _, .same _, .same _, .same _, .same _, .same _, trivial⟩ ⟨.same _, .same _, trivial⟩)
        refine Ok.test (b := ((((rd y3_4_11 x8_6).Kind) == 1) && (y5_1_14 || (((rd y3_4_11 x8_6).Name).Space == (T_api_Name.mk y5_2_15 y5_3_16).Space && (((rd y3_4_11 x8_6).Name).Local == (T_api_Name.mk y5_2_15 y5_3_16).Local && true))))) rfl (fun hb46 => ?_) (fun hb46 => ?_)
        · replace H := ifT H hb46
          refine Ok.region (σ' := ⟨[(1, (.v (.int .i64 a1))), (3, (.bref 3 0)), (5, (.bref 5 0)), (7, (.v (.int .i64 (IntKind.i64.wrap (x7_5 + 1))))), (8, (.v (.int .i64 x8_6)))], [(3, (.box true [(.v (.int .i64 y3_0_7)), (S y3_1_8), (S y3_2_9), (L 3 e_api_Attr y3_3_10), (L 6 e_api_Node y3_4_11), (S y3_5_12)])), (5, (.box true [(.v (.int .i64 y5_0_13)), (.v (.bool y5_1_14)), (S y5_2_15), (S y5_3_16), (.v (.int .i64 y5_4_17)), (.v (.bool y5_5_18)), (S y5_6_19), (S y5_7_20), (S y5_8_21)]))]⟩) ?_ ?_
          · refine OpsOk.cons rfl (.v (VOk.mv (d := (.v (.int .i64 x7_5))) rfl rfl) rfl) ?_
            refine OpsOk.cons rfl (.v (VOk.arith (op := .add) (k := .i64) (a := x7_5) (b := 1) rfl rfl rfl rfl) rfl) ?_
            refine OpsOk.cons rfl (.v (VOk.asg (d := (.v (.int .i64 (IntKind.i64.wrap (x7_5 + 1))))) rfl rfl) rfl) ?_
            exact .done (.mk ⟨.same _, .same _, .same _, .same _, .same _, trivial⟩ ⟨.same _, .same _, trivial⟩)
          refine Ok.region (σ' := ⟨[(1, (.v (.int .i64 a1))), (3, (.bref 3 0)), (5, (.bref 5 0)), (7, (.v (.int .i64 (IntKind.i64.wrap (x7_5 + 1))))), (8, (.v (.int .i64 (IntKind.i64.wrap (x8_6 + 1)))))], [(3, (.box true [(.v (.int .i64 y3_0_7)), (S y3_1_8), (S y3_2_9), (L 3 e_api_Attr y3_3_10), (L 6 e_api_Node y3_4_11), (S y3_5_12)])), (5, (.box true [(.v (.int .i64 y5_0_13)), (.v (.bool y5_1_14)), (S y5_2_15), (S y5_3_16), (.v (.int .i64 y5_4_17)), (.v (.bool y5_5_18)), (S y5_6_19), (S y5_7_20), (S y5_8_21)]))]⟩) ?_ ?_
          · refine OpsOk.cons rfl (.v (VOk.mv (d := (.v (.int .i64 x8_6))) rfl rfl) rfl) ?_
            refine OpsOk.cons rfl (.v (VOk.arith (op := .add) (k := .i64) (a := x8_6) (b := 1) rfl rfl rfl rfl) rfl) ?_
            refine OpsOk.cons rfl (.v (VOk.asg (d := (.v (.int .i64 (IntKind.i64.wrap (x8_6 + 1))))) rfl rfl) rfl) ?_
            exact .done (.mk ⟨.same _, .same _, .same _, .same _, .same _, trivial⟩ ⟨.same _, .same _, trivial⟩)
          exact ⟨m39, Nat.lt_succ_self m39, y3_0_7, y3_1_8, y3_2_9, y3_3_10, y3_4_11, y3_5_12, y5_0_13, y5_1_14, y5_2_15, y5_3_16, y5_4_17, y5_5_18, y5_6_19, y5_7_20, y5_8_21, (IntKind.i64.wrap (x7_5 + 1)), (IntKind.i64.wrap (x8_6 + 1)), rfl, H⟩
        · replace H := ifF H hb46
          refine Ok.le (σ' := ⟨[(1, (.v (.int .i64 a1))), (3, (.bref 3 0)), (5, (.bref 5 0)), (7, (.v (.int .i64 x7_5))), (8, (.v (.int .i64 x8_6)))], [(3, (.box true [(.v (.int .i64 y3_0_7)), (S y3_1_8), (S y3_2_9), (L 3 e_api_Attr y3_3_10), (L 6 e_api_Node y3_4_11), (S y3_5_12)])), (5, (.box true [(.v (.int .i64 y5_0_13)), (.v (.bool y5_1_14)), (S y5_2_15), (S y5_3_16), (.v (.int .i64 y5_4_17)), (.v (.bool y5_5_18)), (S y5_6_19), (S y5_7_20), (S y5_8_21)]))]⟩) (.mk ⟨.same _, .same _, .same _, .same _, .same _, trivial⟩ ⟨.same _, .same _, trivial⟩) ?_
          refine Ok.skip ?_
          refine Ok.region (σ' := ⟨[(1, (.v (.int .i64 a1))), (3, (.bref 3 0)), (5, (.bref 5 0)), (7, (.v (.int .i64 x7_5))), (8, (.v (.int .i64 (IntKind.i64.wrap (x8_6 + 1)))))], [(3, (.box true [(.v (.int .i64 y3_0_7)), (S y3_1_8), (S y3_2_9), (L 3 e_api_Attr y3_3_10), (L 6 e_api_Node y3_4_11), (S y3_5_12)])), (5, (.box true [(.v (.int .i64 y5_0_13)), (.v (.bool y5_1_14)), (S y5_2_15), (S y5_3_16), (.v (.int .i64 y5_4_17)), (.v (.bool y5_5_18)), (S y5_6_19), (S y5_7_20), (S y5_8_21)]))]⟩) ?_ ?_
          · refine OpsOk.cons rfl (.v (VOk.mv (d := (.v (.int .i64 x8_6))) rfl rfl) rfl) ?_
            refine OpsOk.cons rfl (.v (VOk.arith (op := .add) (k := .i64) (a := x8_6) (b := 1) rfl rfl rfl rfl) rfl) ?_
            refine OpsOk.cons rfl (.v (VOk.asg (d := (.v (.int .i64 (IntKind.i64.wrap (x8_6 + 1))))) rfl rfl) rfl) ?_
            exact .done (.mk ⟨.same _, .same _, .same _, .same _, .same _, trivial⟩ ⟨.same _, .same _, trivial⟩)
          exact ⟨m39, Nat.lt_succ_self m39, y3_0_7, y3_1_8, y3_2_9, y3_3_10, y3_4_11, y3_5_12, y5_0_13, y5_1_14, y5_2_15, y5_3_16, y5_4_17, y5_5_18, y5_6_19, y5_7_20, y5_8_21, x7_5, (IntKind.i64.wrap (x8_6 + 1)), rfl, H⟩
      · replace H := ifF H hb63
        refine Ok.le (σ' := ⟨[(1, (.v (.int .i64 a1))), (3, (.bref 3 0)), (5, (.bref 5 0)), (7, (.v (.int .i64 x7_5)))], [(3, (.box true [(.v (.int .i64 y3_0_7)), (S y3_1_8), (S y3_2_9), (L 3 e_api_Attr y3_3_10), (L 6 e_api_Node y3_4_11), (S y3_5_12)])), (5, (.box true [(.v (.int .i64 y5_0_13)), (.v (.bool y5_1_14)), (S y5_2_15), (S y5_3_16), (.v (.int .i64 y5_4_17)), (.v (.bool y5_5_18)), (S y5_6_19), (S y5_7_20), (S y5_8_21)]))]⟩) (.mk ⟨.same _, .same _, .same _, .same _, trivial⟩ ⟨.same _, .same _, trivial⟩) ?_
        refine Ok.exit ?_
        refine Ok.seq ?_
        obtain ⟨c47, H⟩ := assertE H
        refine Ok.region (σ' := ⟨[(5, (.bref 5 0)), (7, (.v (.int .i64 x7_5))), (9, (.bref 9 0))], [(5, (.box true [(.v (.int .i64 y5_0_13)), (.v (.bool y5_1_14)), (S y5_2_15), (S y5_3_16), (.v (.int .i64 y5_4_17)), (.v (.bool y5_5_18)), (S y5_6_19), (S y5_7_20), (S y5_8_21)])), (9, (.box true [(.v (.int .i64 ((rd y3_4_11 a1).Kind))), (S ((rd y3_4_11 a1).Name.Space)), (S ((rd y3_4_11 a1).Name.Local)), (L 3 e_api_Attr ((rd y3_4_11 a1).Attrs)), (L 6 e_api_Node ((rd y3_4_11 a1).Kids)), (S ((rd y3_4_11 a1).Text))]))]⟩) ?_ ?_
        · refine OpsOk.cons rfl (.v (VOk.to (VOk.fieldB rfl Try.underlying27 rfl sz25 rfl rfl) rfl) rfl) ?_
          refine OpsOk.cons rfl (.v (VOk.loadB (d := (L 6 e_api_Node y3_4_11)) rfl Try.underlying25 rfl rfl rfl rfl) rfl) ?_
          refine OpsOk.cons rfl (.v (VOk.mv (d := (.v (.int .i64 a1))) rfl rfl) rfl) ?_
          refine OpsOk.cons rfl (.v (VOk.indexL (sz := 6) (e := e_api_Node) (xs := y3_4_11) (i := a1) rfl Try.underlying25 sz27 rfl rfl c47) rfl) ?_
          refine OpsOk.cons rfl (.v (VOk.to (d' := (.agg (e_api_Node (rd y3_4_11 a1)))) (.loadFpAgg rfl Try.underlying27 rfl sz27 rfl rfl) rfl) rfl) ?_
          refine OpsOk.cons rfl (OpOk.alloc 9 [none, none, none, some 3, some 6, none] rfl zo27 rfl rfl) ?_
          refine OpsOk.cut (σ := ⟨[(1, (.v (.int .i64 a1))), (3, (.bref 3 0)), (5, (.bref 5 0)), (7, (.v (.int .i64 x7_5))), (9, (.bref 9 0)), (55, (.bref 3 4)), (56, (L 6 e_api_Node y3_4_11)), (57, (.v (.int .i64 a1))), (58, (.fp (e_api_Node (rd y3_4_11 a1)) 0)), (59, (.agg [(.v (.int .i64 ((rd y3_4_11 a1).Kind))), (S ((rd y3_4_11 a1).Name.Space)), (S ((rd y3_4_11 a1).Name.Local)), (L 3 e_api_Attr ((rd y3_4_11 a1).Attrs)), (L 6 e_api_Node ((rd y3_4_11 a1).Kids)), (S ((rd y3_4_11 a1).Text))]))], [(3, (.box true [(.v (.int .i64 y3_0_7)), (S y3_1_8), (S y3_2_9), (L 3 e_api_Attr y3_3_10), (L 6 e_api_Node y3_4_11), (S y3_5_12)])), (5, (.box true [(.v (.int .i64 y5_0_13)), (.v (.bool y5_1_14)), (S y5_2_15), (S y5_3_16), (.v (.int .i64 y5_4_17)), (.v (.bool y5_5_18)), (S y5_6_19), (S y5_7_20), (S y5_8_21)])), (9, (.box true [(.v (.int .i64 0)), (S ([] : Str)), (S ([] : Str)), (L 3 e_api_Attr ([] : List T_api_Attr)), (L 6 e_api_Node ([] : List T_api_Node)), (S ([] : Str))]))]⟩) (.mk ⟨.same _, .same _, .same _, .same _, .same _, .same _, .same _, .same _, .same _, DLe.of_eq (congrArg D.agg (e_api_Node_c _).symm), trivial⟩ ⟨.same _, .same _, .same _, trivial⟩) ?_
          refine OpsOk.cons rfl (OpOk.to (σ2 := St.put ⟨_, (9, (.box true [(.v (.int .i64 ((rd y3_4_11 a1).Kind))), (S ((rd y3_4_11 a1).Name.Space)), (S ((rd y3_4_11 a1).Name.Local)), (L 3 e_api_Attr ((rd y3_4_11 a1).Attrs)), (L 6 e_api_Node ((rd y3_4_11 a1).Kids)), (S ((rd y3_4_11 a1).Text))])) :: _⟩ _ .junk) (.storeB rfl sz27 rfl rfl rfl rfl rfl) rfl) ?_
          exact .done (.mk ⟨.same _, .same _, .same _, trivial⟩ ⟨.same _, .same _, trivial⟩)
        refine Ok.seq ?_
        refine Ok.seq ?_
        refine Ok.region (σ' := ⟨[(5, (.bref 5 0)), (9, (.bref 9 0)), (85, (.v (.bool (((((rd y3_4_11 a1).Kind) != 1) || ((!y5_1_14) && (!(((rd y3_4_11 a1).Name).Space == (T_api_Name.mk y5_2_15 y5_3_16).Space && (((rd y3_4_11 a1).Name).Local == (T_api_Name.mk y5_2_15 y5_3_16).Local && true))))) || ((y5_4_17 != 0) && (y5_4_17 != x7_5))))))], [(5, (.box true [(.v (.int .i64 y5_0_13)), (.v (.bool y5_1_14)), (S y5_2_15), (S y5_3_16), (.v (.int .i64 y5_4_17)), (.v (.bool y5_5_18)), (S y5_6_19), (S y5_7_20), (S y5_8_21)])), (9, (.box true [(.v (.int .i64 ((rd y3_4_11 a1).Kind))), (S ((rd y3_4_11 a1).Name.Space)), (S ((rd y3_4_11 a1).Name.Local)), (L 3 e_api_Attr ((rd y3_4_11 a1).Attrs)), (L 6 e_api_Node ((rd y3_4_11 a1).Kids)), (S ((rd y3_4_11 a1).Text))]))]⟩) ?_ ?_
        · refine OpsOk.cons rfl (.v (VOk.to (VOk.fieldB rfl Try.underlying27 rfl sz3 rfl rfl) rfl) rfl) ?_
          refine OpsOk.cons rfl (.v (VOk.loadB (d := (.v (.int .i64 ((rd y3_4_11 a1).Kind)))) rfl Try.underlying3 rfl rfl rfl rfl) rfl) ?_
          refine OpsOk.cons rfl (.v (VOk.arith (op := .neq) (k := .i64) (a := (rd y3_4_11 a1).Kind) (b := 1) rfl rfl rfl rfl) rfl) ?_
          refine OpsOk.cons rfl (.v (VOk.mv (d := (.v (.bool (((rd y3_4_11 a1).Kind) != 1)))) rfl rfl) rfl) ?_
          refine OpsOk.consI rfl rfl rfl (.one rfl) rfl (fun hw48 => (VOk.g (VOk.to (VOk.fieldB rfl Try.underlying30 rfl sz4 rfl rfl) rfl))) ?_
          refine OpsOk.consI rfl rfl rfl (.one rfl) rfl (fun hw48 => (GOk.fr (fr' := [(64, (.bref 5 1))]) ⟨DLe.of_eq (cT hw48).symm, trivial⟩ (VOk.g (VOk.loadB (d := (.v (.bool y5_1_14))) rfl Try.underlying4 rfl rfl rfl rfl)))) ?_
          refine OpsOk.consI rfl rfl rfl (.one rfl) rfl (fun hw48 => (GOk.fr (fr' := [(65, (.v (.bool y5_1_14)))]) ⟨DLe.of_eq (cT hw48).symm, trivial⟩ (VOk.g (VOk.not (b := y5_1_14) rfl rfl)))) ?_
          refine OpsOk.consI rfl rfl rfl (.one rfl) rfl (fun hw48 => (GOk.fr (fr' := [(66, (.v (.bool (!y5_1_14))))]) ⟨DLe.of_eq (cT hw48).symm, trivial⟩ (VOk.g (VOk.mv (d := (.v (.bool (!y5_1_14)))) rfl rfl)))) ?_
          refine OpsOk.consI rfl rfl rfl (.two rfl) rfl (fun hw49 => (VOk.g (VOk.to (VOk.fieldB rfl Try.underlying27 rfl sz23 rfl rfl) rfl))) ?_
          refine OpsOk.consI rfl rfl rfl (.two rfl) rfl (fun hw49 => (GOk.fr (fr' := [(68, (.bref 9 1))]) ⟨DLe.of_eq (cT hw49).symm, trivial⟩ (VOk.g (VOk.to (d' := (.agg (e_api_Name ((rd y3_4_11 a1).Name)))) (.loadBAgg rfl Try.underlying23 rfl sz23 rfl rfl rfl) rfl)))) ?_
          refine OpsOk.consI rfl rfl rfl (.two rfl) rfl (fun hw49 => (VOk.g (VOk.to (VOk.fieldB rfl Try.underlying30 rfl sz23 rfl rfl) rfl))) ?_
          refine OpsOk.consI rfl rfl rfl (.two rfl) rfl (fun hw49 => (GOk.fr (fr' := [(70, (.bref 5 2))]) ⟨DLe.of_eq (cT hw49).symm, trivial⟩ (VOk.g (VOk.to (d' := (.agg (e_api_Name (T_api_Name.mk y5_2_15 y5_3_16)))) (.loadBAgg rfl Try.underlying23 rfl sz23 rfl rfl rfl) rfl)))) ?_
          refine OpsOk.consI rfl rfl rfl (.two rfl) rfl (fun hw49 => (GOk.fr (fr' := [(69, (.agg (e_api_Name ((rd y3_4_11 a1).Name)))), (71, (.agg (e_api_Name (T_api_Name.mk y5_2_15 y5_3_16))))]) ⟨DLe.of_eq (cT hw49).symm, DLe.of_eq (cT hw49).symm, trivial⟩ (VOk.g (VOk.eqS' (op := .neq) (d := (.v (.bool (!(((rd y3_4_11 a1).Name).Space == (T_api_Name.mk y5_2_15 y5_3_16).Space && (((rd y3_4_11 a1).Name).Local == (T_api_Name.mk y5_2_15 y5_3_16).Local && true)))))) rfl (.inr rfl) (eqt23 9998) ag23 eg23 rfl rfl rfl rfl)))) ?_
          refine OpsOk.consI rfl rfl rfl (.one rfl) rfl (fun hw48 => (VOk.g (VOk.to (VOk.pickI (b := (!y5_1_14)) (p := (!(((rd y3_4_11 a1).Name).Space == (T_api_Name.mk y5_2_15 y5_3_16).Space && (((rd y3_4_11 a1).Name).Local == (T_api_Name.mk y5_2_15 y5_3_16).Local && true)))) (q := false) rfl (cT hw48) (fun hp50 => (cT (and_i hw48 (t_beq hp50)))) (fun hp50 => rfl)) (pickAnd (!y5_1_14) (!(((rd y3_4_11 a1).Name).Space == (T_api_Name.mk y5_2_15 y5_3_16).Space && (((rd y3_4_11 a1).Name).Local == (T_api_Name.mk y5_2_15 y5_3_16).Local && true))))))) ?_
          refine OpsOk.cons rfl (.v (VOk.to (VOk.pickI (b := (((rd y3_4_11 a1).Kind) != 1)) (p := true) (q := ((!y5_1_14) && (!(((rd y3_4_11 a1).Name).Space == (T_api_Name.mk y5_2_15 y5_3_16).Space && (((rd y3_4_11 a1).Name).Local == (T_api_Name.mk y5_2_15 y5_3_16).Local && true))))) rfl rfl (fun hp51 => rfl) (fun hp51 => (cT (f_beq hp51)))) (pickOr (((rd y3_4_11 a1).Kind) != 1) ((!y5_1_14) && (!(((rd y3_4_11 a1).Name).Space == (T_api_Name.mk y5_2_15 y5_3_16).Space && (((rd y3_4_11 a1).Name).Local == (T_api_Name.mk y5_2_15 y5_3_16).Local && true)))))) rfl) ?_
          refine OpsOk.cons rfl (.v (VOk.mv (d := (.v (.bool ((((rd y3_4_11 a1).Kind) != 1) || ((!y5_1_14) && (!(((rd y3_4_11 a1).Name).Space == (T_api_Name.mk y5_2_15 y5_3_16).Space && (((rd y3_4_11 a1).Name).Local == (T_api_Name.mk y5_2_15 y5_3_16).Local && true)))))))) rfl rfl) rfl) ?_
          refine OpsOk.consI rfl rfl rfl (.one rfl) rfl (fun hw52 => (VOk.g (VOk.to (VOk.fieldB rfl Try.underlying30 rfl sz3 rfl rfl) rfl))) ?_
          refine OpsOk.consI rfl rfl rfl (.one rfl) rfl (fun hw52 => (GOk.fr (fr' := [(76, (.bref 5 4))]) ⟨DLe.of_eq (cT hw52).symm, trivial⟩ (VOk.g (VOk.loadB (d := (.v (.int .i64 y5_4_17))) rfl Try.underlying3 rfl rfl rfl rfl)))) ?_
          refine OpsOk.consI rfl rfl rfl (.one rfl) rfl (fun hw52 => (GOk.fr (fr' := [(77, (.v (.int .i64 y5_4_17)))]) ⟨DLe.of_eq (cT hw52).symm, trivial⟩ (VOk.g (VOk.arith (op := .neq) (k := .i64) (a := y5_4_17) (b := 0) rfl rfl rfl rfl)))) ?_
          refine OpsOk.consI rfl rfl rfl (.one rfl) rfl (fun hw52 => (GOk.fr (fr' := [(78, (.v (.bool (y5_4_17 != 0))))]) ⟨DLe.of_eq (cT hw52).symm, trivial⟩ (VOk.g (VOk.mv (d := (.v (.bool (y5_4_17 != 0)))) rfl rfl)))) ?_
          refine OpsOk.consI rfl rfl rfl (.two rfl) rfl (fun hw53 => (VOk.g (VOk.to (VOk.fieldB rfl Try.underlying30 rfl sz3 rfl rfl) rfl))) ?_
          refine OpsOk.consI rfl rfl rfl (.two rfl) rfl (fun hw53 => (GOk.fr (fr' := [(80, (.bref 5 4))]) ⟨DLe.of_eq (cT hw53).symm, trivial⟩ (VOk.g (VOk.loadB (d := (.v (.int .i64 y5_4_17))) rfl Try.underlying3 rfl rfl rfl rfl)))) ?_
          refine OpsOk.consI rfl rfl rfl (.two rfl) rfl (fun hw53 => (VOk.g (VOk.mv (d := (.v (.int .i64 x7_5))) rfl rfl))) ?_
          refine OpsOk.consI rfl rfl rfl (.two rfl) rfl (fun hw53 => (GOk.fr (fr' := [(81, (.v (.int .i64 y5_4_17))), (82, (.v (.int .i64 x7_5)))]) ⟨DLe.of_eq (cT hw53).symm, DLe.of_eq (cT hw53).symm, trivial⟩ (VOk.g (VOk.arith (op := .neq) (k := .i64) (a := y5_4_17) (b := x7_5) rfl rfl rfl rfl)))) ?_
          refine OpsOk.consI rfl rfl rfl (.one rfl) rfl (fun hw52 => (VOk.g (VOk.to (VOk.pickI (b := (y5_4_17 != 0)) (p := (y5_4_17 != x7_5)) (q := false) rfl (cT hw52) (fun hp54 => (cT (and_i hw52 (t_beq hp54)))) (fun hp54 => rfl)) (pickAnd (y5_4_17 != 0) (y5_4_17 != x7_5))))) ?_
          refine OpsOk.cons rfl (.v (VOk.to (VOk.pickI (b := ((((rd y3_4_11 a1).Kind) != 1) || ((!y5_1_14) && (!(((rd y3_4_11 a1).Name).Space == (T_api_Name.mk y5_2_15 y5_3_16).Space && (((rd y3_4_11 a1).Name).Local == (T_api_Name.mk y5_2_15 y5_3_16).Local && true)))))) (p := true) (q := ((y5_4_17 != 0) && (y5_4_17 != x7_5))) rfl rfl (fun hp55 => rfl) (fun hp55 => (cT (f_beq hp55)))) (pickOr ((((rd y3_4_11 a1).Kind) != 1) || ((!y5_1_14) && (!(((rd y3_4_11 a1).Name).Space == (T_api_Name.mk y5_2_15 y5_3_16).Space && (((rd y3_4_11 a1).Name).Local == (T_api_Name.mk y5_2_15 y5_3_16).Local && true))))) ((y5_4_17 != 0) && (y5_4_17 != x7_5)))) rfl) ?_
          exact .done (.mk ⟨.same _, .same _, .same _, trivial⟩ ⟨.same _, .same _, trivial⟩)
        refine Ok.test (b := (((((rd y3_4_11 a1).Kind) != 1) || ((!y5_1_14) && (!(((rd y3_4_11 a1).Name).Space == (T_api_Name.mk y5_2_15 y5_3_16).Space && (((rd y3_4_11 a1).Name).Local == (T_api_Name.mk y5_2_15 y5_3_16).Local && true))))) || ((y5_4_17 != 0) && (y5_4_17 != x7_5)))) rfl (fun hb62 => ?_) (fun hb62 => ?_)
        · replace H := ifT H hb62
          refine Ok.seq ?_
          refine Ok.region (σ' := ⟨[(6, (.v (.bool false)))], []⟩) ?_ ?_
          · refine OpsOk.cons rfl (.v (VOk.asg (d := (.v (.bool false))) rfl rfl) rfl) ?_
            exact .done (.mk ⟨.same _, trivial⟩ trivial)
          refine Ok.le (σ' := ⟨[(6, (.v (.bool false)))], []⟩) (.mk ⟨.same _, trivial⟩ trivial) ?_
          refine Ok.ret ?_
          obtain rfl := Option.some.inj H
          exact ⟨.inl rfl, ⟨_, (.cons (.tmp rfl) .nil), rfl⟩, trivial⟩
        · replace H := ifF H hb62
          refine Ok.le (σ' := ⟨[(5, (.bref 5 0)), (9, (.bref 9 0))], [(5, (.box true [(.v (.int .i64 y5_0_13)), (.v (.bool y5_1_14)), (S y5_2_15), (S y5_3_16), (.v (.int .i64 y5_4_17)), (.v (.bool y5_5_18)), (S y5_6_19), (S y5_7_20), (S y5_8_21)])), (9, (.box true [(.v (.int .i64 ((rd y3_4_11 a1).Kind))), (S ((rd y3_4_11 a1).Name.Space)), (S ((rd y3_4_11 a1).Name.Local)), (L 3 e_api_Attr ((rd y3_4_11 a1).Attrs)), (L 6 e_api_Node ((rd y3_4_11 a1).Kids)), (S ((rd y3_4_11 a1).Text))]))]⟩) (.mk ⟨.same _, .same _, trivial⟩ ⟨.same _, .same _, trivial⟩) ?_
          refine Ok.skip ?_
          refine Ok.seq ?_
          obtain ⟨t56, h57, H⟩ := bindE H
          refine Ok.region (σ' := ⟨[(5, (.bref 5 0)), (10, (S t56.1)), (11, (.v (.bool t56.2)))], [(5, (.box true [(.v (.int .i64 y5_0_13)), (.v (.bool y5_1_14)), (S y5_2_15), (S y5_3_16), (.v (.int .i64 y5_4_17)), (.v (.bool y5_5_18)), (S y5_6_19), (S y5_7_20), (S y5_8_21)]))]⟩) ?_ ?_
          · refine OpsOk.cons rfl (.v (VOk.to (d' := (.agg (e_api_Node (rd y3_4_11 a1)))) (.loadBAgg rfl Try.underlying27 rfl sz27 rfl rfl rfl) (congrArg D.agg (e_api_Node_c (rd y3_4_11 a1)).symm)) rfl) ?_
            refine OpsOk.cons rfl (.v (VOk.to (VOk.fieldB rfl Try.underlying30 rfl sz23 rfl rfl) rfl) rfl) ?_
            refine OpsOk.cons rfl (.v (VOk.to (d' := (.agg (e_api_Name (T_api_Name.mk y5_6_19 y5_7_20)))) (.loadBAgg rfl Try.underlying23 rfl sz23 rfl rfl rfl) rfl) rfl) ?_
            refine OpsOk.cons rfl (.g (GOk.call rfl rfl cl32 rfl (watchbillref04_Get.ok h57) rfl) rfl) ?_
            refine OpsOk.cons rfl (.v (VOk.mv (d := (.tup [(S t56.1), (.v (.bool t56.2))])) rfl rfl) rfl) ?_
            refine OpsOk.cons rfl (.v (VOk.extract (d := (S t56.1)) rfl rfl rfl) rfl) ?_
            refine OpsOk.cons rfl (.v (VOk.extract (d := (.v (.bool t56.2))) rfl rfl rfl) rfl) ?_
            refine OpsOk.cons rfl (.v (VOk.asg (d := (S t56.1)) rfl rfl) rfl) ?_
            refine OpsOk.cons rfl (.v (VOk.asg (d := (.v (.bool t56.2))) rfl rfl) rfl) ?_
            exact .done (.mk ⟨.same _, .same _, .same _, trivial⟩ ⟨.same _, trivial⟩)
          refine Ok.seq ?_
          refine Ok.region (σ' := ⟨[(6, (.v (.bool ((!y5_5_18) || (t56.2 && (t56.1 == y5_8_21))))))], []⟩) ?_ ?_
          · refine OpsOk.cons rfl (.v (VOk.to (VOk.fieldB rfl Try.underlying30 rfl sz4 rfl rfl) rfl) rfl) ?_
            refine OpsOk.cons rfl (.v (VOk.loadB (d := (.v (.bool y5_5_18))) rfl Try.underlying4 rfl rfl rfl rfl) rfl) ?_
            refine OpsOk.cons rfl (.v (VOk.not (b := y5_5_18) rfl rfl) rfl) ?_
            refine OpsOk.cons rfl (.v (VOk.mv (d := (.v (.bool (!y5_5_18)))) rfl rfl) rfl) ?_
            refine OpsOk.consI rfl rfl rfl (.one rfl) rfl (fun hw58 => (VOk.g (VOk.mv (d := (.v (.bool t56.2))) rfl rfl))) ?_
            refine OpsOk.consI rfl rfl rfl (.one rfl) rfl (fun hw58 => (GOk.fr (fr' := [(97, (.v (.bool t56.2)))]) ⟨DLe.of_eq (cT hw58).symm, trivial⟩ (VOk.g (VOk.mv (d := (.v (.bool t56.2))) rfl rfl)))) ?_
            refine OpsOk.consI rfl rfl rfl (.two rfl) rfl (fun hw59 => (VOk.g (VOk.mv (d := (S t56.1)) rfl rfl))) ?_
            refine OpsOk.consI rfl rfl rfl (.two rfl) rfl (fun hw59 => (VOk.g (VOk.to (VOk.fieldB rfl Try.underlying30 rfl sz9 rfl rfl) rfl))) ?_
            refine OpsOk.consI rfl rfl rfl (.two rfl) rfl (fun hw59 => (GOk.fr (fr' := [(100, (.bref 5 8))]) ⟨DLe.of_eq (cT hw59).symm, trivial⟩ (VOk.g (VOk.loadB (d := (S y5_8_21)) rfl Try.underlying9 rfl rfl rfl rfl)))) ?_
            refine OpsOk.consI rfl rfl rfl (.two rfl) rfl (fun hw59 => (GOk.fr (fr' := [(99, (S t56.1)), (101, (S y5_8_21))]) ⟨DLe.of_eq (cT hw59).symm, DLe.of_eq (cT hw59).symm, trivial⟩ (VOk.g (VOk.strOp (op := .eql) (a := t56.1) (b := y5_8_21) rfl rfl rfl rfl)))) ?_
            refine OpsOk.consI rfl rfl rfl (.one rfl) rfl (fun hw58 => (VOk.g (VOk.to (VOk.pickI (b := t56.2) (p := (t56.1 == y5_8_21)) (q := false) rfl (cT hw58) (fun hp60 => (cT (and_i hw58 (t_beq hp60)))) (fun hp60 => rfl)) (pickAnd t56.2 (t56.1 == y5_8_21))))) ?_
            refine OpsOk.cons rfl (.v (VOk.to (VOk.pickI (b := (!y5_5_18)) (p := true) (q := (t56.2 && (t56.1 == y5_8_21))) rfl rfl (fun hp61 => rfl) (fun hp61 => (cT (f_beq hp61)))) (pickOr (!y5_5_18) (t56.2 && (t56.1 == y5_8_21)))) rfl) ?_
            refine OpsOk.cons rfl (.v (VOk.asg (d := (.v (.bool ((!y5_5_18) || (t56.2 && (t56.1 == y5_8_21)))))) rfl rfl) rfl) ?_
            exact .done (.mk ⟨.same _, trivial⟩ trivial)
          refine Ok.le (σ' := ⟨[(6, (.v (.bool ((!y5_5_18) || (t56.2 && (t56.1 == y5_8_21))))))], []⟩) (.mk ⟨.same _, trivial⟩ trivial) ?_
          refine Ok.ret ?_
          obtain rfl := Option.some.inj H
          exact ⟨.inl rfl, ⟨_, (.cons (.tmp rfl) .nil), rfl⟩, trivial⟩

/-! watchbill/watchbillref12.Selects: function 29 -/
def watchbillref12_Selects.l0 (k : Nat) (a1 : List T_api_Step) (a2 : List Int) : Nat → Int → Str → Str → List T_api_Attr → List T_api_Node → Str → Int → Option Bool
  | 0, _, _, _, _, _, _, _ => none
  | m16 + 1, y7_0_3, y7_1_4, y7_2_5, y7_3_6, y7_4_7, y7_5_8, x9_2 => (if (decide (x9_2 < (a1.length : Int))) = true then (if (0 : Int) ≤ x9_2 ∧ x9_2 < ((([0] : List Int) ++ a2).length : Int) then (if (0 : Int) ≤ x9_2 ∧ x9_2 < (a1.length : Int) then ((watchbillref12_Fits k (T_api_Node.mk y7_0_3 (T_api_Name.mk y7_1_4 y7_2_5) y7_3_6 y7_4_7 y7_5_8) (rd (([0] : List Int) ++ a2) x9_2) (rd a1 x9_2)).bind fun (t19 : Bool) => (if (!t19) = true then some false else (if (0 : Int) ≤ x9_2 ∧ x9_2 < ((([0] : List Int) ++ a2).length : Int) then (if (0 : Int) ≤ (rd (([0] : List Int) ++ a2) x9_2) ∧ (rd (([0] : List Int) ++ a2) x9_2) < (y7_4_7.length : Int) then watchbillref12_Selects.l0 k a1 a2 m16 ((rd y7_4_7 (rd (([0] : List Int) ++ a2) x9_2)).Kind) ((rd y7_4_7 (rd (([0] : List Int) ++ a2) x9_2)).Name.Space) ((rd y7_4_7 (rd (([0] : List Int) ++ a2) x9_2)).Name.Local) ((rd y7_4_7 (rd (([0] : List Int) ++ a2) x9_2)).Attrs) ((rd y7_4_7 (rd (([0] : List Int) ++ a2) x9_2)).Kids) ((rd y7_4_7 (rd (([0] : List Int) ++ a2) x9_2)).Text) (IntKind.i64.wrap (x9_2 + 1)) else none) else none))) else none) else none) else some true)
def watchbillref12_Selects (k : Nat) (a0 : T_api_Node) (a1 : List T_api_Step) (a2 : List Int) : Option Bool := (if ((a1.length : Int) != (IntKind.i64.wrap ((a2.length : Int) + 1))) = true then some false else (if (([0] : List Int).length + a2.length) * 8 ≤ 140737488355328 then watchbillref12_Selects.l0 k a1 a2 k ((T_api_Node.mk 1 (T_api_Name.mk ([] : Str) ([] : Str)) ([] : List T_api_Attr) ([a0] : List T_api_Node) ([] : Str)).Kind) ((T_api_Node.mk 1 (T_api_Name.mk ([] : Str) ([] : Str)) ([] : List T_api_Attr) ([a0] : List T_api_Node) ([] : Str)).Name.Space) ((T_api_Node.mk 1 (T_api_Name.mk ([] : Str) ([] : Str)) ([] : List T_api_Attr) ([a0] : List T_api_Node) ([] : Str)).Name.Local) ((T_api_Node.mk 1 (T_api_Name.mk ([] : Str) ([] : Str)) ([] : List T_api_Attr) ([a0] : List T_api_Node) ([] : Str)).Attrs) ((T_api_Node.mk 1 (T_api_Name.mk ([] : Str) ([] : Str)) ([] : List T_api_Attr) ([a0] : List T_api_Node) ([] : Str)).Kids) ((T_api_Node.mk 1 (T_api_Name.mk ([] : Str) ([] : Str)) ([] : List T_api_Attr) ([a0] : List T_api_Node) ([] : Str)).Text) 0 else none))
theorem watchbillref12_Selects.ok {k : Nat} {a0 : T_api_Node} {a1 : List T_api_Step} {a2 : List Int} {r : Bool} (H : watchbillref12_Selects k a0 a1 a2 = some r) : Vx.Fn Try.prog 29 [(.agg (e_api_Node a0)), (L 9 e_api_Step a1), (L 1 (eI .i64) a2)] [] (.v (.bool r)) [] := by
  unfold watchbillref12_Selects at H
  refine Vx.Fn.of_okR Try.func29 rfl (Nat.le_of_ble_eq_true rfl) ?_
  refine Ok.seq ?_
  refine Ok.region (σ' := ⟨[(1, (L 9 e_api_Step a1)), (2, (L 1 (eI .i64) a2)), (3, (.bref 3 0))], [(3, (.box true [(.v (.int .i64 a0.Kind)), (S a0.Name.Space), (S a0.Name.Local), (L 3 e_api_Attr a0.Attrs), (L 6 e_api_Node a0.Kids), (S a0.Text)]))]⟩) ?_ ?_
  · refine OpsOk.cut (σ := ⟨[(0, (.agg [(.v (.int .i64 a0.Kind)), (S a0.Name.Space), (S a0.Name.Local), (L 3 e_api_Attr a0.Attrs), (L 6 e_api_Node a0.Kids), (S a0.Text)])), (1, (L 9 e_api_Step a1)), (2, (L 1 (eI .i64) a2))], []⟩) (.mk ⟨DLe.of_eq (congrArg D.agg (e_api_Node_c _).symm), .same _, .same _, trivial⟩ trivial) ?_
    refine OpsOk.cons rfl (OpOk.box 3 (cells := [(.v (.int .i64 a0.Kind)), (S a0.Name.Space), (S a0.Name.Local), (L 3 e_api_Attr a0.Attrs), (L 6 e_api_Node a0.Kids), (S a0.Text)]) rfl rfl rfl rfl) ?_
    refine OpsOk.cons rfl (.v (VOk.asg (d := (.v (.bool false))) rfl rfl) rfl) ?_
    exact .done (.mk ⟨.same _, .same _, .same _, trivial⟩ ⟨.same _, trivial⟩)
  refine Ok.seq ?_
  refine Ok.seq ?_
  refine Ok.region (σ' := ⟨[(1, (L 9 e_api_Step a1)), (2, (L 1 (eI .i64) a2)), (3, (.bref 3 0)), (15, (.v (.bool ((a1.length : Int) != (IntKind.i64.wrap ((a2.length : Int) + 1))))))], [(3, (.box true [(.v (.int .i64 a0.Kind)), (S a0.Name.Space), (S a0.Name.Local), (L 3 e_api_Attr a0.Attrs), (L 6 e_api_Node a0.Kids), (S a0.Text)]))]⟩) ?_ ?_
  · refine OpsOk.cons rfl (.v (VOk.mv (d := (L 9 e_api_Step a1)) rfl rfl) rfl) ?_
    refine OpsOk.cons rfl (.v (VOk.lenL (e := e_api_Step) (xs := a1) rfl Try.underlying28 rfl) rfl) ?_
    refine OpsOk.cons rfl (.v (VOk.mv (d := (L 1 (eI .i64) a2)) rfl rfl) rfl) ?_
    refine OpsOk.cons rfl (.v (VOk.lenL (e := (eI .i64)) (xs := a2) rfl Try.underlying39 rfl) rfl) ?_
    refine OpsOk.cons rfl (.v (VOk.arith (op := .add) (k := .i64) (a := (a2.length : Int)) (b := 1) rfl rfl rfl rfl) rfl) ?_
    refine OpsOk.cons rfl (.v (VOk.arith (op := .neq) (k := .i64) (a := (a1.length : Int)) (b := (IntKind.i64.wrap ((a2.length : Int) + 1))) rfl rfl rfl rfl) rfl) ?_
    exact .done (.mk ⟨.same _, .same _, .same _, .same _, trivial⟩ ⟨.same _, trivial⟩)
  refine Ok.test (b := ((a1.length : Int) != (IntKind.i64.wrap ((a2.length : Int) + 1)))) rfl (fun hb25 => ?_) (fun hb25 => ?_)
  · replace H := ifT H hb25
    refine Ok.seq ?_
    refine Ok.region (σ' := ⟨[(6, (.v (.bool false)))], []⟩) ?_ ?_
    · refine OpsOk.cons rfl (.v (VOk.asg (d := (.v (.bool false))) rfl rfl) rfl) ?_
      exact .done (.mk ⟨.same _, trivial⟩ trivial)
    refine Ok.le (σ' := ⟨[(6, (.v (.bool false)))], []⟩) (.mk ⟨.same _, trivial⟩ trivial) ?_
    refine Ok.ret ?_
    obtain rfl := Option.some.inj H
    exact ⟨.inl rfl, ⟨_, (.cons (.tmp rfl) .nil), rfl⟩, trivial⟩
  · replace H := ifF H hb25
    refine Ok.le (σ' := ⟨[(1, (L 9 e_api_Step a1)), (2, (L 1 (eI .i64) a2)), (3, (.bref 3 0))], [(3, (.box true [(.v (.int .i64 a0.Kind)), (S a0.Name.Space), (S a0.Name.Local), (L 3 e_api_Attr a0.Attrs), (L 6 e_api_Node a0.Kids), (S a0.Text)]))]⟩) (.mk ⟨.same _, .same _, .same _, trivial⟩ ⟨.same _, trivial⟩) ?_
    refine Ok.skip ?_
    refine Ok.seq ?_
    refine Ok.region (σ' := ⟨[(1, (L 9 e_api_Step a1)), (2, (L 1 (eI .i64) a2)), (7, (.bref 7 0))], [(7, (.box true [(.v (.int .i64 ((T_api_Node.mk 1 (T_api_Name.mk ([] : Str) ([] : Str)) ([] : List T_api_Attr) ([a0] : List T_api_Node) ([] : Str)).Kind))), (S ((T_api_Node.mk 1 (T_api_Name.mk ([] : Str) ([] : Str)) ([] : List T_api_Attr) ([a0] : List T_api_Node) ([] : Str)).Name.Space)), (S ((T_api_Node.mk 1 (T_api_Name.mk ([] : Str) ([] : Str)) ([] : List T_api_Attr) ([a0] : List T_api_Node) ([] : Str)).Name.Local)), (L 3 e_api_Attr ((T_api_Node.mk 1 (T_api_Name.mk ([] : Str) ([] : Str)) ([] : List T_api_Attr) ([a0] : List T_api_Node) ([] : Str)).Attrs)), (L 6 e_api_Node ((T_api_Node.mk 1 (T_api_Name.mk ([] : Str) ([] : Str)) ([] : List T_api_Attr) ([a0] : List T_api_Node) ([] : Str)).Kids)), (S ((T_api_Node.mk 1 (T_api_Name.mk ([] : Str) ([] : Str)) ([] : List T_api_Attr) ([a0] : List T_api_Node) ([] : Str)).Text))]))]⟩) ?_ ?_
    · refine OpsOk.cons rfl (.v (VOk.to (d' := (.agg (e_api_Node a0))) (.loadBAgg rfl Try.underlying27 rfl sz27 rfl rfl rfl) (congrArg D.agg (e_api_Node_c a0).symm)) rfl) ?_
      refine OpsOk.cons rfl (.g (GOk.to (d' := (L 6 e_api_Node ([a0] : List T_api_Node))) (GOk.lit rfl Try.underlying25 sz27 zs27 rfl rfl rfl rfl) rfl) rfl) ?_
      refine OpsOk.cons rfl (.v (VOk.to (d' := (.agg (e_api_Node (T_api_Node.mk 1 (T_api_Name.mk ([] : Str) ([] : Str)) ([] : List T_api_Attr) ([a0] : List T_api_Node) ([] : Str))))) (.build [none, none, none, some 3, some 6, none] [(0, 1), (1, 2), (3, 1), (4, 1), (5, 1)] rfl Try.underlying27 (fa27 Try.underlying27) zo27 rfl rfl) (congrArg D.agg (e_api_Node_c (T_api_Node.mk 1 (T_api_Name.mk ([] : Str) ([] : Str)) ([] : List T_api_Attr) ([a0] : List T_api_Node) ([] : Str))).symm)) rfl) ?_
      refine OpsOk.cons rfl (OpOk.alloc 7 [none, none, none, some 3, some 6, none] rfl zo27 rfl rfl) ?_
      refine OpsOk.cut (σ := ⟨[(1, (L 9 e_api_Step a1)), (2, (L 1 (eI .i64) a2)), (3, (.bref 3 0)), (7, (.bref 7 0)), (16, (.agg (e_api_Node a0))), (17, (L 6 e_api_Node ([a0] : List T_api_Node))), (18, (.agg [(.v (.int .i64 ((T_api_Node.mk 1 (T_api_Name.mk ([] : Str) ([] : Str)) ([] : List T_api_Attr) ([a0] : List T_api_Node) ([] : Str)).Kind))), (S ((T_api_Node.mk 1 (T_api_Name.mk ([] : Str) ([] : Str)) ([] : List T_api_Attr) ([a0] : List T_api_Node) ([] : Str)).Name.Space)), (S ((T_api_Node.mk 1 (T_api_Name.mk ([] : Str) ([] : Str)) ([] : List T_api_Attr) ([a0] : List T_api_Node) ([] : Str)).Name.Local)), (L 3 e_api_Attr ((T_api_Node.mk 1 (T_api_Name.mk ([] : Str) ([] : Str)) ([] : List T_api_Attr) ([a0] : List T_api_Node) ([] : Str)).Attrs)), (L 6 e_api_Node ((T_api_Node.mk 1 (T_api_Name.mk ([] : Str) ([] : Str)) ([] : List T_api_Attr) ([a0] : List T_api_Node) ([] : Str)).Kids)), (S ((T_api_Node.mk 1 (T_api_Name.mk ([] : Str) ([] : Str)) ([] : List T_api_Attr) ([a0] : List T_api_Node) ([] : Str)).Text))]))], [(3, (.box true [(.v (.int .i64 a0.Kind)), (S a0.Name.Space), (S a0.Name.Local), (L 3 e_api_Attr a0.Attrs), (L 6 e_api_Node a0.Kids), (S a0.Text)])), (7, (.box true [(.v (.int .i64 0)), (S ([] : Str)), (S ([] : Str)), (L 3 e_api_Attr ([] : List T_api_Attr)), (L 6 e_api_Node ([] : List T_api_Node)), (S ([] : Str))]))]⟩) (.mk ⟨.same _, .same _, .same _, .same _, .same _, .same _, DLe.of_eq (congrArg D.agg (e_api_Node_c _).symm), trivial⟩ ⟨.same _, .same _, trivial⟩) ?_
      refine OpsOk.cons rfl (OpOk.to (σ2 := St.put ⟨_, (7, (.box true [(.v (.int .i64 ((T_api_Node.mk 1 (T_api_Name.mk ([] : Str) ([] : Str)) ([] : List T_api_Attr) ([a0] : List T_api_Node) ([] : Str)).Kind))), (S ((T_api_Node.mk 1 (T_api_Name.mk ([] : Str) ([] : Str)) ([] : List T_api_Attr) ([a0] : List T_api_Node) ([] : Str)).Name.Space)), (S ((T_api_Node.mk 1 (T_api_Name.mk ([] : Str) ([] : Str)) ([] : List T_api_Attr) ([a0] : List T_api_Node) ([] : Str)).Name.Local)), (L 3 e_api_Attr ((T_api_Node.mk 1 (T_api_Name.mk ([] : Str) ([] : Str)) ([] : List T_api_Attr) ([a0] : List T_api_Node) ([] : Str)).Attrs)), (L 6 e_api_Node ((T_api_Node.mk 1 (T_api_Name.mk ([] : Str) ([] : Str)) ([] : List T_api_Attr) ([a0] : List T_api_Node) ([] : Str)).Kids)), (S ((T_api_Node.mk 1 (T_api_Name.mk ([] : Str) ([] : Str)) ([] : List T_api_Attr) ([a0] : List T_api_Node) ([] : Str)).Text))])) :: _⟩ _ .junk) (.storeB rfl sz27 rfl rfl rfl rfl rfl) rfl) ?_
      exact .done (.mk ⟨.same _, .same _, .same _, trivial⟩ ⟨.same _, trivial⟩)
    refine Ok.seq ?_
    obtain ⟨c1, H⟩ := assertE H
    refine Ok.region (σ' := ⟨[(1, (L 9 e_api_Step a1)), (7, (.bref 7 0)), (8, (L 1 (eI .i64) (([0] : List Int) ++ a2)))], [(7, (.box true [(.v (.int .i64 ((T_api_Node.mk 1 (T_api_Name.mk ([] : Str) ([] : Str)) ([] : List T_api_Attr) ([a0] : List T_api_Node) ([] : Str)).Kind))), (S ((T_api_Node.mk 1 (T_api_Name.mk ([] : Str) ([] : Str)) ([] : List T_api_Attr) ([a0] : List T_api_Node) ([] : Str)).Name.Space)), (S ((T_api_Node.mk 1 (T_api_Name.mk ([] : Str) ([] : Str)) ([] : List T_api_Attr) ([a0] : List T_api_Node) ([] : Str)).Name.Local)), (L 3 e_api_Attr ((T_api_Node.mk 1 (T_api_Name.mk ([] : Str) ([] : Str)) ([] : List T_api_Attr) ([a0] : List T_api_Node) ([] : Str)).Attrs)), (L 6 e_api_Node ((T_api_Node.mk 1 (T_api_Name.mk ([] : Str) ([] : Str)) ([] : List T_api_Attr) ([a0] : List T_api_Node) ([] : Str)).Kids)), (S ((T_api_Node.mk 1 (T_api_Name.mk ([] : Str) ([] : Str)) ([] : List T_api_Attr) ([a0] : List T_api_Node) ([] : Str)).Text))]))]⟩) ?_ ?_
    · refine OpsOk.cons rfl (.g (GOk.to (d' := (.clist 1 (List.map (eI .i64) ([0] : List Int)))) (GOk.litC rfl Try.underlying39 sz3 zs3 rfl rfl rfl rfl) rfl) rfl) ?_
      refine OpsOk.cons rfl (.v (VOk.mv (d := (L 1 (eI .i64) a2)) rfl rfl) rfl) ?_
      refine OpsOk.cons rfl (.g (GOk.appendC (e := (eI .i64)) (xs := ([0] : List Int)) (ys := a2) rfl Try.underlying39 elt3 (.same _) rfl c1) rfl) ?_
      refine OpsOk.cons rfl (.v (VOk.asg (d := (L 1 (eI .i64) (([0] : List Int) ++ a2))) rfl rfl) rfl) ?_
      exact .done (.mk ⟨.same _, .same _, .same _, trivial⟩ ⟨.same _, trivial⟩)
    refine Ok.seq ?_
    refine Ok.seq ?_
    refine Ok.region (σ' := ⟨[(1, (L 9 e_api_Step a1)), (7, (.bref 7 0)), (8, (L 1 (eI .i64) (([0] : List Int) ++ a2))), (9, (.v (.int .i64 0)))], [(7, (.box true [(.v (.int .i64 ((T_api_Node.mk 1 (T_api_Name.mk ([] : Str) ([] : Str)) ([] : List T_api_Attr) ([a0] : List T_api_Node) ([] : Str)).Kind))), (S ((T_api_Node.mk 1 (T_api_Name.mk ([] : Str) ([] : Str)) ([] : List T_api_Attr) ([a0] : List T_api_Node) ([] : Str)).Name.Space)), (S ((T_api_Node.mk 1 (T_api_Name.mk ([] : Str) ([] : Str)) ([] : List T_api_Attr) ([a0] : List T_api_Node) ([] : Str)).Name.Local)), (L 3 e_api_Attr ((T_api_Node.mk 1 (T_api_Name.mk ([] : Str) ([] : Str)) ([] : List T_api_Attr) ([a0] : List T_api_Node) ([] : Str)).Attrs)), (L 6 e_api_Node ((T_api_Node.mk 1 (T_api_Name.mk ([] : Str) ([] : Str)) ([] : List T_api_Attr) ([a0] : List T_api_Node) ([] : Str)).Kids)), (S ((T_api_Node.mk 1 (T_api_Name.mk ([] : Str) ([] : Str)) ([] : List T_api_Attr) ([a0] : List T_api_Node) ([] : Str)).Text))]))]⟩) ?_ ?_
    · refine OpsOk.cons rfl (.v (VOk.asg (d := (.v (.int .i64 0))) rfl rfl) rfl) ?_
      exact .done (.mk ⟨.same _, .same _, .same _, .same _, trivial⟩ ⟨.same _, trivial⟩)
    refine Ok.block ?_
    refine Ok.le (σ' := ⟨[(1, (L 9 e_api_Step a1)), (7, (.bref 7 0)), (8, (L 1 (eI .i64) (([0] : List Int) ++ a2))), (9, (.v (.int .i64 0)))], [(7, (.box true [(.v (.int .i64 ((T_api_Node.mk 1 (T_api_Name.mk ([] : Str) ([] : Str)) ([] : List T_api_Attr) ([a0] : List T_api_Node) ([] : Str)).Kind))), (S ((T_api_Node.mk 1 (T_api_Name.mk ([] : Str) ([] : Str)) ([] : List T_api_Attr) ([a0] : List T_api_Node) ([] : Str)).Name.Space)), (S ((T_api_Node.mk 1 (T_api_Name.mk ([] : Str) ([] : Str)) ([] : List T_api_Attr) ([a0] : List T_api_Node) ([] : Str)).Name.Local)), (L 3 e_api_Attr ((T_api_Node.mk 1 (T_api_Name.mk ([] : Str) ([] : Str)) ([] : List T_api_Attr) ([a0] : List T_api_Node) ([] : Str)).Attrs)), (L 6 e_api_Node ((T_api_Node.mk 1 (T_api_Name.mk ([] : Str) ([] : Str)) ([] : List T_api_Attr) ([a0] : List T_api_Node) ([] : Str)).Kids)), (S ((T_api_Node.mk 1 (T_api_Name.mk ([] : Str) ([] : Str)) ([] : List T_api_Attr) ([a0] : List T_api_Node) ([] : Str)).Text))]))]⟩) (.mk ⟨.same _, .same _, .same _, .same _, trivial⟩ ⟨.same _, trivial⟩) ?_
    refine Ok.loop (fun m16 σ => ∃ (y7_0_3 : Int) (y7_1_4 : Str) (y7_2_5 : Str) (y7_3_6 : List T_api_Attr) (y7_4_7 : List T_api_Node) (y7_5_8 : Str) (x9_2 : Int), σ = ⟨[(1, (L 9 e_api_Step a1)), (7, (.bref 7 0)), (8, (L 1 (eI .i64) (([0] : List Int) ++ a2))), (9, (.v (.int .i64 x9_2)))], [(7, (.box true [(.v (.int .i64 y7_0_3)), (S y7_1_4), (S y7_2_5), (L 3 e_api_Attr y7_3_6), (L 6 e_api_Node y7_4_7), (S y7_5_8)]))]⟩ ∧ watchbillref12_Selects.l0 k a1 a2 m16 y7_0_3 y7_1_4 y7_2_5 y7_3_6 y7_4_7 y7_5_8 x9_2 = some r) k ⟨((T_api_Node.mk 1 (T_api_Name.mk ([] : Str) ([] : Str)) ([] : List T_api_Attr) ([a0] : List T_api_Node) ([] : Str)).Kind), ((T_api_Node.mk 1 (T_api_Name.mk ([] : Str) ([] : Str)) ([] : List T_api_Attr) ([a0] : List T_api_Node) ([] : Str)).Name.Space), ((T_api_Node.mk 1 (T_api_Name.mk ([] : Str) ([] : Str)) ([] : List T_api_Attr) ([a0] : List T_api_Node) ([] : Str)).Name.Local), ((T_api_Node.mk 1 (T_api_Name.mk ([] : Str) ([] : Str)) ([] : List T_api_Attr) ([a0] : List T_api_Node) ([] : Str)).Attrs), ((T_api_Node.mk 1 (T_api_Name.mk ([] : Str) ([] : Str)) ([] : List T_api_Attr) ([a0] : List T_api_Node) ([] : Str)).Kids), ((T_api_Node.mk 1 (T_api_Name.mk ([] : Str) ([] : Str)) ([] : List T_api_Attr) ([a0] : List T_api_Node) ([] : Str)).Text), 0, rfl, H⟩ ?_
    rintro m16 σ ⟨y7_0_3, y7_1_4, y7_2_5, y7_3_6, y7_4_7, y7_5_8, x9_2, rfl, H⟩
    cases m16 with
    | zero => exact absurd H (by simp [watchbillref12_Selects.l0])
    | succ m16 =>
      unfold watchbillref12_Selects.l0 at H
      refine Ok.seq ?_
      refine Ok.seq ?_
      refine Ok.region (σ' := ⟨[(1, (L 9 e_api_Step a1)), (7, (.bref 7 0)), (8, (L 1 (eI .i64) (([0] : List Int) ++ a2))), (9, (.v (.int .i64 x9_2))), (25, (.v (.bool (decide (x9_2 < (a1.length : Int))))))], [(7, (.box true [(.v (.int .i64 y7_0_3)), (S y7_1_4), (S y7_2_5), (L 3 e_api_Attr y7_3_6), (L 6 e_api_Node y7_4_7), (S y7_5_8)]))]⟩) ?_ ?_
      · refine OpsOk.cons rfl (.v (VOk.mv (d := (.v (.int .i64 x9_2))) rfl rfl) rfl) ?_
        refine OpsOk.cons rfl (.v (VOk.mv (d := (L 9 e_api_Step a1)) rfl rfl) rfl) ?_
        refine OpsOk.cons rfl (.v (VOk.lenL (e := e_api_Step) (xs := a1) rfl Try.underlying28 rfl) rfl) ?_
        refine OpsOk.cons rfl (.v (VOk.arith (op := .lss) (k := .i64) (a := x9_2) (b := (a1.length : Int)) rfl rfl rfl rfl) rfl) ?_
        exact .done (.mk ⟨.same _, .same _, .same _, .same _, .same _, trivial⟩ ⟨.same _, trivial⟩)
      refine Ok.test (b := (decide (x9_2 < (a1.length : Int)))) rfl (fun hb24 => ?_) (fun hb24 => ?_)
      · replace H := ifT H hb24
        refine Ok.le (σ' := ⟨[(1, (L 9 e_api_Step a1)), (7, (.bref 7 0)), (8, (L 1 (eI .i64) (([0] : List Int) ++ a2))), (9, (.v (.int .i64 x9_2)))], [(7, (.box true [(.v (.int .i64 y7_0_3)), (S y7_1_4), (S y7_2_5), (L 3 e_api_Attr y7_3_6), (L 6 e_api_Node y7_4_7), (S y7_5_8)]))]⟩) (.mk ⟨.same _, .same _, .same _, .same _, trivial⟩ ⟨.same _, trivial⟩) ?_
        refine Ok.skip ?_
        refine Ok.seq ?_
        refine Ok.block ?_
        refine Ok.seq ?_
        refine Ok.seq ?_
        obtain ⟨c17, H⟩ := assertE H
        obtain ⟨c18, H⟩ := assertE H
        obtain ⟨t19, h20, H⟩ := bindE H
        refine Ok.drawE (σ' := ⟨[(1, (L 9 e_api_Step a1)), (7, (.bref 7 0)), (8, (L 1 (eI .i64) (([0] : List Int) ++ a2))), (9, (.v (.int .i64 x9_2))), (38, (.v (.bool (!t19))))], [(7, (.box true [(.v (.int .i64 y7_0_3)), (S y7_1_4), (S y7_2_5), (L 3 e_api_Attr y7_3_6), (L 6 e_api_Node y7_4_7), (S y7_5_8)]))]⟩) [⟨true, [(7, (.bref 7 0))], (.agg (e_api_Node (T_api_Node.mk y7_0_3 (T_api_Name.mk y7_1_4 y7_2_5) y7_3_6 y7_4_7 y7_5_8)))⟩, ⟨true, [(8, (L 1 (eI .i64) (([0] : List Int) ++ a2)))], (L 1 (eI .i64) (([0] : List Int) ++ a2))⟩, ⟨true, [(9, (.v (.int .i64 x9_2)))], (.v (.int .i64 x9_2))⟩, ⟨true, [(29, (L 1 (eI .i64) (([0] : List Int) ++ a2))), (30, (.v (.int .i64 x9_2)))], (.fp ((eI .i64) (rd (([0] : List Int) ++ a2) x9_2)) 0)⟩, ⟨true, [(31, (.fp ((eI .i64) (rd (([0] : List Int) ++ a2) x9_2)) 0))], (.v (.int .i64 (rd (([0] : List Int) ++ a2) x9_2)))⟩, ⟨true, [(1, (L 9 e_api_Step a1))], (L 9 e_api_Step a1)⟩, ⟨true, [(9, (.v (.int .i64 x9_2)))], (.v (.int .i64 x9_2))⟩, ⟨true, [(33, (L 9 e_api_Step a1)), (34, (.v (.int .i64 x9_2)))], (.fp (e_api_Step (rd a1 x9_2)) 0)⟩, ⟨true, [(35, (.fp (e_api_Step (rd a1 x9_2)) 0))], (.agg (e_api_Step (rd a1 x9_2)))⟩, ⟨true, [(28, (.agg (e_api_Node (T_api_Node.mk y7_0_3 (T_api_Name.mk y7_1_4 y7_2_5) y7_3_6 y7_4_7 y7_5_8)))), (32, (.v (.int .i64 (rd (([0] : List Int) ++ a2) x9_2)))), (36, (.agg (e_api_Step (rd a1 x9_2))))], (.v (.bool t19))⟩, ⟨true, [(37, (.v (.bool t19)))], (.v (.bool (!t19)))⟩] [[], [], [], [1, 2], [3], [], [], [5, 6], [7], [0, 4, 8], [9]] mixed (by kernel_rfl) ?_ ?_
        · refine TxtE.cons rfl ⟨.same _, trivial⟩ rfl (VOk.g (VOk.to (d' := (.agg (e_api_Node (T_api_Node.mk y7_0_3 (T_api_Name.mk y7_1_4 y7_2_5) y7_3_6 y7_4_7 y7_5_8)))) (.loadBAgg rfl Try.underlying27 rfl sz27 rfl rfl rfl) (congrArg D.agg (e_api_Node_c (T_api_Node.mk y7_0_3 (T_api_Name.mk y7_1_4 y7_2_5) y7_3_6 y7_4_7 y7_5_8)).symm))) ?_
          refine TxtE.cons rfl ⟨.same _, trivial⟩ rfl (VOk.g (VOk.mv (d := (L 1 (eI .i64) (([0] : List Int) ++ a2))) rfl rfl)) ?_
          refine TxtE.cons rfl ⟨.same _, trivial⟩ rfl (VOk.g (VOk.mv (d := (.v (.int .i64 x9_2))) rfl rfl)) ?_
          refine TxtE.cons rfl ⟨.same _, .same _, trivial⟩ rfl (VOk.g (VOk.indexL (sz := 1) (e := (eI .i64)) (xs := (([0] : List Int) ++ a2)) (i := x9_2) rfl Try.underlying39 sz3 rfl rfl c17)) ?_
          refine TxtE.cons rfl ⟨.same _, trivial⟩ rfl (VOk.g (VOk.loadFp (d := (.v (.int .i64 (rd (([0] : List Int) ++ a2) x9_2)))) rfl Try.underlying3 rfl rfl rfl)) ?_
          refine TxtE.cons rfl ⟨.same _, trivial⟩ rfl (VOk.g (VOk.mv (d := (L 9 e_api_Step a1)) rfl rfl)) ?_
          refine TxtE.cons rfl ⟨.same _, trivial⟩ rfl (VOk.g (VOk.mv (d := (.v (.int .i64 x9_2))) rfl rfl)) ?_
          refine TxtE.cons rfl ⟨.same _, .same _, trivial⟩ rfl (VOk.g (VOk.indexL (sz := 9) (e := e_api_Step) (xs := a1) (i := x9_2) rfl Try.underlying28 sz30 rfl rfl c18)) ?_
          refine TxtE.cons rfl ⟨.same _, trivial⟩ rfl (VOk.g (VOk.to (d' := (.agg (e_api_Step (rd a1 x9_2)))) (.loadFpAgg rfl Try.underlying30 rfl sz30 rfl rfl) rfl)) ?_
          refine TxtE.cons rfl ⟨.same _, .same _, .same _, trivial⟩ rfl (GOk.call rfl rfl cl13 rfl (watchbillref12_Fits.ok h20) rfl) ?_
          refine TxtE.cons rfl ⟨.same _, trivial⟩ rfl (VOk.g (VOk.not (b := t19) rfl rfl)) ?_
          exact .done (.mk ⟨.same _, .same _, .same _, .same _, .same _, trivial⟩ ⟨.same _, trivial⟩)
        refine Ok.test (b := (!t19)) rfl (fun hb23 => ?_) (fun hb23 => ?_)
        · replace H := ifT H hb23
          refine Ok.seq ?_
          refine Ok.region (σ' := ⟨[(6, (.v (.bool false)))], []⟩) ?_ ?_
          · refine OpsOk.cons rfl (.v (VOk.asg (d := (.v (.bool false))) rfl rfl) rfl) ?_
            exact .done (.mk ⟨.same _, trivial⟩ trivial)
          refine Ok.le (σ' := ⟨[(6, (.v (.bool false)))], []⟩) (.mk ⟨.same _, trivial⟩ trivial) ?_
          refine Ok.ret ?_
          obtain rfl := Option.some.inj H
          exact ⟨.inl rfl, ⟨_, (.cons (.tmp rfl) .nil), rfl⟩, trivial⟩
        · replace H := ifF H hb23
          refine Ok.le (σ' := ⟨[(1, (L 9 e_api_Step a1)), (7, (.bref 7 0)), (8, (L 1 (eI .i64) (([0] : List Int) ++ a2))), (9, (.v (.int .i64 x9_2)))], [(7, (.box true [(.v (.int .i64 y7_0_3)), (S y7_1_4), (S y7_2_5), (L 3 e_api_Attr y7_3_6), (L 6 e_api_Node y7_4_7), (S y7_5_8)]))]⟩) (.mk ⟨.same _, .same _, .same _, .same _, trivial⟩ ⟨.same _, trivial⟩) ?_
          refine Ok.skip ?_
          obtain ⟨c21, H⟩ := assertE H
          obtain ⟨c22, H⟩ := assertE H
          refine Ok.le (σ' := ⟨[(1, (L 9 e_api_Step a1)), (7, (.bref 7 0)), (8, (L 1 (eI .i64) (([0] : List Int) ++ a2))), (9, (.v (.int .i64 x9_2)))], [(7, (.box true [(.v (.int .i64 y7_0_3)), (S y7_1_4), (S y7_2_5), (L 3 e_api_Attr y7_3_6), (L 6 e_api_Node y7_4_7), (S y7_5_8)]))]⟩) (.mk ⟨.same _, .same _, .same _, .same _, trivial⟩ ⟨.same _, trivial⟩) ?_
          refine Ok.drawE2 (σ' := ⟨[(1, (L 9 e_api_Step a1)), (7, (.bref 7 0)), (8, (L 1 (eI .i64) (([0] : List Int) ++ a2))), (9, (.v (.int .i64 x9_2)))], [(7, (.box true [(.v (.int .i64 ((rd y7_4_7 (rd (([0] : List Int) ++ a2) x9_2)).Kind))), (S ((rd y7_4_7 (rd (([0] : List Int) ++ a2) x9_2)).Name.Space)), (S ((rd y7_4_7 (rd (([0] : List Int) ++ a2) x9_2)).Name.Local)), (L 3 e_api_Attr ((rd y7_4_7 (rd (([0] : List Int) ++ a2) x9_2)).Attrs)), (L 6 e_api_Node ((rd y7_4_7 (rd (([0] : List Int) ++ a2) x9_2)).Kids)), (S ((rd y7_4_7 (rd (([0] : List Int) ++ a2) x9_2)).Text))]))]⟩) [⟨true, [(7, (.bref 7 0))], [(7, (.box true [(.v (.int .i64 y7_0_3)), (S y7_1_4), (S y7_2_5), (L 3 e_api_Attr y7_3_6), (L 6 e_api_Node y7_4_7), (S y7_5_8)]))], (.bref 7 4), none, false⟩, ⟨true, [(39, (.bref 7 4))], [(7, (.box true [(.v (.int .i64 y7_0_3)), (S y7_1_4), (S y7_2_5), (L 3 e_api_Attr y7_3_6), (L 6 e_api_Node y7_4_7), (S y7_5_8)]))], (L 6 e_api_Node y7_4_7), none, false⟩, ⟨true, [(8, (L 1 (eI .i64) (([0] : List Int) ++ a2)))], [], (L 1 (eI .i64) (([0] : List Int) ++ a2)), none, false⟩, ⟨true, [(9, (.v (.int .i64 x9_2)))], [], (.v (.int .i64 x9_2)), none, false⟩, ⟨true, [(41, (L 1 (eI .i64) (([0] : List Int) ++ a2))), (42, (.v (.int .i64 x9_2)))], [], (.fp ((eI .i64) (rd (([0] : List Int) ++ a2) x9_2)) 0), none, false⟩, ⟨true, [(43, (.fp ((eI .i64) (rd (([0] : List Int) ++ a2) x9_2)) 0))], [], (.v (.int .i64 (rd (([0] : List Int) ++ a2) x9_2))), none, false⟩, ⟨true, [(40, (L 6 e_api_Node y7_4_7)), (44, (.v (.int .i64 (rd (([0] : List Int) ++ a2) x9_2))))], [], (.fp (e_api_Node (rd y7_4_7 (rd (([0] : List Int) ++ a2) x9_2))) 0), none, false⟩, ⟨true, [(45, (.fp (e_api_Node (rd y7_4_7 (rd (([0] : List Int) ++ a2) x9_2))) 0))], [], (.agg (e_api_Node (rd y7_4_7 (rd (([0] : List Int) ++ a2) x9_2)))), none, false⟩, ⟨true, [(7, (.bref 7 0)), (46, (.agg [(.v (.int .i64 ((rd y7_4_7 (rd (([0] : List Int) ++ a2) x9_2)).Kind))), (S ((rd y7_4_7 (rd (([0] : List Int) ++ a2) x9_2)).Name.Space)), (S ((rd y7_4_7 (rd (([0] : List Int) ++ a2) x9_2)).Name.Local)), (L 3 e_api_Attr ((rd y7_4_7 (rd (([0] : List Int) ++ a2) x9_2)).Attrs)), (L 6 e_api_Node ((rd y7_4_7 (rd (([0] : List Int) ++ a2) x9_2)).Kids)), (S ((rd y7_4_7 (rd (([0] : List Int) ++ a2) x9_2)).Text))]))], [(7, (.box true [(.v (.int .i64 y7_0_3)), (S y7_1_4), (S y7_2_5), (L 3 e_api_Attr y7_3_6), (L 6 e_api_Node y7_4_7), (S y7_5_8)]))], .junk, (some (7, (.box true [(.v (.int .i64 ((rd y7_4_7 (rd (([0] : List Int) ++ a2) x9_2)).Kind))), (S ((rd y7_4_7 (rd (([0] : List Int) ++ a2) x9_2)).Name.Space)), (S ((rd y7_4_7 (rd (([0] : List Int) ++ a2) x9_2)).Name.Local)), (L 3 e_api_Attr ((rd y7_4_7 (rd (([0] : List Int) ++ a2) x9_2)).Attrs)), (L 6 e_api_Node ((rd y7_4_7 (rd (([0] : List Int) ++ a2) x9_2)).Kids)), (S ((rd y7_4_7 (rd (([0] : List Int) ++ a2) x9_2)).Text))]))), false⟩] [[], [0], [], [], [2, 3], [4], [1, 5], [6], [0, 1, 7]] mixed (by kernel_rfl) ?_ ?_
          · refine TxtE2.cons ⟨.same _, trivial⟩ ⟨rfl, trivial⟩ (It2.val rfl rfl (fun T hT => (VOk.g (VOk.to (VOk.fieldB rfl Try.underlying27 rfl sz25 rfl hT.1) rfl)))) ?_
            refine TxtE2.cons ⟨.same _, trivial⟩ ⟨rfl, trivial⟩ (It2.val rfl rfl (fun T hT => (VOk.g (VOk.loadB (d := (L 6 e_api_Node y7_4_7)) rfl Try.underlying25 rfl rfl hT.1 rfl)))) ?_
            refine TxtE2.cons ⟨.same _, trivial⟩ trivial (It2.val rfl rfl (fun T hT => (VOk.g (VOk.mv (d := (L 1 (eI .i64) (([0] : List Int) ++ a2))) rfl rfl)))) ?_
            refine TxtE2.cons ⟨.same _, trivial⟩ trivial (It2.val rfl rfl (fun T hT => (VOk.g (VOk.mv (d := (.v (.int .i64 x9_2))) rfl rfl)))) ?_
            refine TxtE2.cons ⟨.same _, .same _, trivial⟩ trivial (It2.val rfl rfl (fun T hT => (VOk.g (VOk.indexL (sz := 1) (e := (eI .i64)) (xs := (([0] : List Int) ++ a2)) (i := x9_2) rfl Try.underlying39 sz3 rfl rfl c21)))) ?_
            refine TxtE2.cons ⟨.same _, trivial⟩ trivial (It2.val rfl rfl (fun T hT => (VOk.g (VOk.loadFp (d := (.v (.int .i64 (rd (([0] : List Int) ++ a2) x9_2)))) rfl Try.underlying3 rfl rfl rfl)))) ?_
            refine TxtE2.cons ⟨.same _, .same _, trivial⟩ trivial (It2.val rfl rfl (fun T hT => (VOk.g (VOk.indexL (sz := 6) (e := e_api_Node) (xs := y7_4_7) (i := (rd (([0] : List Int) ++ a2) x9_2)) rfl Try.underlying25 sz27 rfl rfl c22)))) ?_
            refine TxtE2.cons ⟨.same _, trivial⟩ trivial (It2.val rfl rfl (fun T hT => (VOk.g (VOk.to (d' := (.agg (e_api_Node (rd y7_4_7 (rd (([0] : List Int) ++ a2) x9_2))))) (.loadFpAgg rfl Try.underlying27 rfl sz27 rfl rfl) rfl)))) ?_
            refine TxtE2.cons ⟨.same _, DLe.of_eq (congrArg D.agg (e_api_Node_c _).symm), trivial⟩ ⟨rfl, trivial⟩ (It2.store rfl rfl sz27 rfl rfl rfl rfl rfl rfl rfl) ?_
            exact .done (.mk ⟨.same _, .same _, .same _, .same _, trivial⟩ ⟨.same _, trivial⟩)
          refine Ok.region (σ' := ⟨[(1, (L 9 e_api_Step a1)), (7, (.bref 7 0)), (8, (L 1 (eI .i64) (([0] : List Int) ++ a2))), (9, (.v (.int .i64 (IntKind.i64.wrap (x9_2 + 1)))))], [(7, (.box true [(.v (.int .i64 ((rd y7_4_7 (rd (([0] : List Int) ++ a2) x9_2)).Kind))), (S ((rd y7_4_7 (rd (([0] : List Int) ++ a2) x9_2)).Name.Space)), (S ((rd y7_4_7 (rd (([0] : List Int) ++ a2) x9_2)).Name.Local)), (L 3 e_api_Attr ((rd y7_4_7 (rd (([0] : List Int) ++ a2) x9_2)).Attrs)), (L 6 e_api_Node ((rd y7_4_7 (rd (([0] : List Int) ++ a2) x9_2)).Kids)), (S ((rd y7_4_7 (rd (([0] : List Int) ++ a2) x9_2)).Text))]))]⟩) ?_ ?_
          · refine OpsOk.cons rfl (.v (VOk.mv (d := (.v (.int .i64 x9_2))) rfl rfl) rfl) ?_
            refine OpsOk.cons rfl (.v (VOk.arith (op := .add) (k := .i64) (a := x9_2) (b := 1) rfl rfl rfl rfl) rfl) ?_
            refine OpsOk.cons rfl (.v (VOk.asg (d := (.v (.int .i64 (IntKind.i64.wrap (x9_2 + 1))))) rfl rfl) rfl) ?_
            exact .done (.mk ⟨.same _, .same _, .same _, .same _, trivial⟩ ⟨.same _, trivial⟩)
          exact ⟨m16, Nat.lt_succ_self m16, ((rd y7_4_7 (rd (([0] : List Int) ++ a2) x9_2)).Kind), ((rd y7_4_7 (rd (([0] : List Int) ++ a2) x9_2)).Name.Space), ((rd y7_4_7 (rd (([0] : List Int) ++ a2) x9_2)).Name.Local), ((rd y7_4_7 (rd (([0] : List Int) ++ a2) x9_2)).Attrs), ((rd y7_4_7 (rd (([0] : List Int) ++ a2) x9_2)).Kids), ((rd y7_4_7 (rd (([0] : List Int) ++ a2) x9_2)).Text), (IntKind.i64.wrap (x9_2 + 1)), rfl, H⟩
      · replace H := ifF H hb24
        refine Ok.le (σ' := ⟨[], []⟩) (.mk trivial trivial) ?_
        refine Ok.exit ?_
        refine Ok.seq ?_
        refine Ok.region (σ' := ⟨[(6, (.v (.bool true)))], []⟩) ?_ ?_
        · refine OpsOk.cons rfl (.v (VOk.asg (d := (.v (.bool true))) rfl rfl) rfl) ?_
          exact .done (.mk ⟨.same _, trivial⟩ trivial)
        refine Ok.le (σ' := ⟨[(6, (.v (.bool true)))], []⟩) (.mk ⟨.same _, trivial⟩ trivial) ?_
        refine Ok.ret ?_
        obtain rfl := Option.some.inj H
        exact ⟨.inl rfl, ⟨_, (.cons (.tmp rfl) .nil), rfl⟩, trivial⟩

/-! watchbill/watchbillref12.Find: function 11 -/
def watchbillref12_Find.l0 (k : Nat) (a1 : List T_api_Step) (t1 : (List (List Int))) : Nat → Int → Str → Str → List T_api_Attr → List T_api_Node → Str → List (List Int) → Int → Option (List (List Int))
  | 0, _, _, _, _, _, _, _, _ => none
  | m19 + 1, y2_0_4, y2_1_5, y2_2_6, y2_3_7, y2_4_8, y2_5_9, y5_10, x7_3 => (if (decide (x7_3 < (t1.length : Int))) = true then (if (0 : Int) ≤ x7_3 ∧ x7_3 < (t1.length : Int) then ((watchbillref12_Selects k (T_api_Node.mk y2_0_4 (T_api_Name.mk y2_1_5 y2_2_6) y2_3_7 y2_4_8 y2_5_9) a1 (rd t1 x7_3)).bind fun (t21 : Bool) => (if t21 = true then (if (0 : Int) ≤ x7_3 ∧ x7_3 < (t1.length : Int) then (if (y5_10.length + ([(rd t1 x7_3)] : List (List Int)).length) * 24 ≤ 140737488355328 then watchbillref12_Find.l0 k a1 t1 m19 y2_0_4 y2_1_5 y2_2_6 y2_3_7 y2_4_8 y2_5_9 (y5_10 ++ ([(rd t1 x7_3)] : List (List Int))) (IntKind.i64.wrap (x7_3 + 1)) else none) else none) else watchbillref12_Find.l0 k a1 t1 m19 y2_0_4 y2_1_5 y2_2_6 y2_3_7 y2_4_8 y2_5_9 y5_10 (IntKind.i64.wrap (x7_3 + 1)))) else none) else some y5_10)
def watchbillref12_Find (k : Nat) (a0 : T_api_Node) (a1 : List T_api_Step) : Option (List (List Int)) := ((watchbillref06_Places k a0).bind fun (t1 : (List (List Int))) => watchbillref12_Find.l0 k a1 t1 k a0.Kind a0.Name.Space a0.Name.Local a0.Attrs a0.Kids a0.Text ([] : List (List Int)) 0)
theorem watchbillref12_Find.ok {k : Nat} {a0 : T_api_Node} {a1 : List T_api_Step} {r : (List (List Int))} (H : watchbillref12_Find k a0 a1 = some r) : Vx.Fn Try.prog 11 [(.agg (e_api_Node a0)), (L 9 e_api_Step a1)] [] (L 1 (eL 1 (eI .i64)) r) [] := by
  unfold watchbillref12_Find at H
  refine Vx.Fn.of_okR Try.func11 rfl (Nat.le_of_ble_eq_true rfl) ?_
  refine Ok.seq ?_
  refine Ok.region (σ' := ⟨[(1, (L 9 e_api_Step a1)), (2, (.bref 2 0))], [(2, (.box true [(.v (.int .i64 a0.Kind)), (S a0.Name.Space), (S a0.Name.Local), (L 3 e_api_Attr a0.Attrs), (L 6 e_api_Node a0.Kids), (S a0.Text)]))]⟩) ?_ ?_
  · refine OpsOk.cut (σ := ⟨[(0, (.agg [(.v (.int .i64 a0.Kind)), (S a0.Name.Space), (S a0.Name.Local), (L 3 e_api_Attr a0.Attrs), (L 6 e_api_Node a0.Kids), (S a0.Text)])), (1, (L 9 e_api_Step a1))], []⟩) (.mk ⟨DLe.of_eq (congrArg D.agg (e_api_Node_c _).symm), .same _, trivial⟩ trivial) ?_
    refine OpsOk.cons rfl (OpOk.box 2 (cells := [(.v (.int .i64 a0.Kind)), (S a0.Name.Space), (S a0.Name.Local), (L 3 e_api_Attr a0.Attrs), (L 6 e_api_Node a0.Kids), (S a0.Text)]) rfl rfl rfl rfl) ?_
    refine OpsOk.cons rfl (.v (VOk.asg (d := (.v (.slice none 0 0))) rfl rfl) rfl) ?_
    exact .done (.mk ⟨.same _, .same _, trivial⟩ ⟨.same _, trivial⟩)
  refine Ok.seq ?_
  refine Ok.region (σ' := ⟨[(1, (L 9 e_api_Step a1)), (2, (.bref 2 0)), (5, (.sref 5))], [(2, (.box true [(.v (.int .i64 a0.Kind)), (S a0.Name.Space), (S a0.Name.Local), (L 3 e_api_Attr a0.Attrs), (L 6 e_api_Node a0.Kids), (S a0.Text)])), (5, (.rows true 39 1 (([] : List (List Int)).map (eL 1 (eI .i64)))))]⟩) ?_ ?_
  · refine OpsOk.cons rfl (.nilT 5 39 1 (.inl rfl) rfl rfl) ?_
    exact .done (.mk ⟨.same _, .same _, .same _, trivial⟩ ⟨.same _, .same _, trivial⟩)
  refine Ok.seq ?_
  obtain ⟨t1, h2, H⟩ := bindE H
  refine Ok.region (σ' := ⟨[(1, (L 9 e_api_Step a1)), (2, (.bref 2 0)), (5, (.sref 5)), (6, (L 1 (eL 1 (eI .i64)) t1))], [(2, (.box true [(.v (.int .i64 a0.Kind)), (S a0.Name.Space), (S a0.Name.Local), (L 3 e_api_Attr a0.Attrs), (L 6 e_api_Node a0.Kids), (S a0.Text)])), (5, (.rows true 39 1 (([] : List (List Int)).map (eL 1 (eI .i64)))))]⟩) ?_ ?_
  · refine OpsOk.cons rfl (.v (VOk.to (d' := (.agg (e_api_Node a0))) (.loadBAgg rfl Try.underlying27 rfl sz27 rfl rfl rfl) (congrArg D.agg (e_api_Node_c a0).symm)) rfl) ?_
    refine OpsOk.cons rfl (.g (GOk.call rfl rfl cl28 rfl (watchbillref06_Places.ok h2) rfl) rfl) ?_
    refine OpsOk.cons rfl (.v (VOk.asg (d := (L 1 (eL 1 (eI .i64)) t1)) rfl rfl) rfl) ?_
    exact .done (.mk ⟨.same _, .same _, .same _, .same _, trivial⟩ ⟨.same _, .same _, trivial⟩)
  refine Ok.seq ?_
  refine Ok.seq ?_
  refine Ok.region (σ' := ⟨[(1, (L 9 e_api_Step a1)), (2, (.bref 2 0)), (5, (.sref 5)), (6, (L 1 (eL 1 (eI .i64)) t1)), (7, (.v (.int .i64 0)))], [(2, (.box true [(.v (.int .i64 a0.Kind)), (S a0.Name.Space), (S a0.Name.Local), (L 3 e_api_Attr a0.Attrs), (L 6 e_api_Node a0.Kids), (S a0.Text)])), (5, (.rows true 39 1 (([] : List (List Int)).map (eL 1 (eI .i64)))))]⟩) ?_ ?_
  · refine OpsOk.cons rfl (.v (VOk.asg (d := (.v (.int .i64 0))) rfl rfl) rfl) ?_
    exact .done (.mk ⟨.same _, .same _, .same _, .same _, .same _, trivial⟩ ⟨.same _, .same _, trivial⟩)
  refine Ok.block ?_
  refine Ok.le (σ' := ⟨[(1, (L 9 e_api_Step a1)), (2, (.bref 2 0)), (5, (.sref 5)), (6, (L 1 (eL 1 (eI .i64)) t1)), (7, (.v (.int .i64 0)))], [(2, (.box true [(.v (.int .i64 a0.Kind)), (S a0.Name.Space), (S a0.Name.Local), (L 3 e_api_Attr a0.Attrs), (L 6 e_api_Node a0.Kids), (S a0.Text)])), (5, (.rows true 39 1 (([] : List (List Int)).map (eL 1 (eI .i64)))))]⟩) (.mk ⟨.same _, .same _, .same _, .same _, .same _, trivial⟩ ⟨.same _, .same _, trivial⟩) ?_
  refine Ok.loop (fun m19 σ => ∃ (y2_0_4 : Int) (y2_1_5 : Str) (y2_2_6 : Str) (y2_3_7 : List T_api_Attr) (y2_4_8 : List T_api_Node) (y2_5_9 : Str) (y5_10 : List (List Int)) (x7_3 : Int), σ = ⟨[(1, (L 9 e_api_Step a1)), (2, (.bref 2 0)), (5, (.sref 5)), (6, (L 1 (eL 1 (eI .i64)) t1)), (7, (.v (.int .i64 x7_3)))], [(2, (.box true [(.v (.int .i64 y2_0_4)), (S y2_1_5), (S y2_2_6), (L 3 e_api_Attr y2_3_7), (L 6 e_api_Node y2_4_8), (S y2_5_9)])), (5, (.rows true 39 1 (y5_10.map (eL 1 (eI .i64)))))]⟩ ∧ watchbillref12_Find.l0 k a1 t1 m19 y2_0_4 y2_1_5 y2_2_6 y2_3_7 y2_4_8 y2_5_9 y5_10 x7_3 = some r) k ⟨a0.Kind, a0.Name.Space, a0.Name.Local, a0.Attrs, a0.Kids, a0.Text, ([] : List (List Int)), 0, rfl, H⟩ ?_
  rintro m19 σ ⟨y2_0_4, y2_1_5, y2_2_6, y2_3_7, y2_4_8, y2_5_9, y5_10, x7_3, rfl, H⟩
  cases m19 with
  | zero => exact absurd H (by simp [watchbillref12_Find.l0])
  | succ m19 =>
    unfold watchbillref12_Find.l0 at H
    refine Ok.seq ?_
    refine Ok.seq ?_
    refine Ok.region (σ' := ⟨[(1, (L 9 e_api_Step a1)), (2, (.bref 2 0)), (5, (.sref 5)), (6, (L 1 (eL 1 (eI .i64)) t1)), (7, (.v (.int .i64 x7_3))), (13, (.v (.bool (decide (x7_3 < (t1.length : Int))))))], [(2, (.box true [(.v (.int .i64 y2_0_4)), (S y2_1_5), (S y2_2_6), (L 3 e_api_Attr y2_3_7), (L 6 e_api_Node y2_4_8), (S y2_5_9)])), (5, (.rows true 39 1 (y5_10.map (eL 1 (eI .i64)))))]⟩) ?_ ?_
    · refine OpsOk.cons rfl (.v (VOk.mv (d := (.v (.int .i64 x7_3))) rfl rfl) rfl) ?_
      refine OpsOk.cons rfl (.v (VOk.mv (d := (L 1 (eL 1 (eI .i64)) t1)) rfl rfl) rfl) ?_
      refine OpsOk.cons rfl (.v (VOk.lenL (e := (eL 1 (eI .i64))) (xs := t1) rfl Try.underlying34 rfl) rfl) ?_
      refine OpsOk.cons rfl (.v (VOk.arith (op := .lss) (k := .i64) (a := x7_3) (b := (t1.length : Int)) rfl rfl rfl rfl) rfl) ?_
      exact .done (.mk ⟨.same _, .same _, .same _, .same _, .same _, .same _, trivial⟩ ⟨.same _, .same _, trivial⟩)
    refine Ok.test (b := (decide (x7_3 < (t1.length : Int)))) rfl (fun hb26 => ?_) (fun hb26 => ?_)
    · replace H := ifT H hb26
      refine Ok.le (σ' := ⟨[(1, (L 9 e_api_Step a1)), (2, (.bref 2 0)), (5, (.sref 5)), (6, (L 1 (eL 1 (eI .i64)) t1)), (7, (.v (.int .i64 x7_3)))], [(2, (.box true [(.v (.int .i64 y2_0_4)), (S y2_1_5), (S y2_2_6), (L 3 e_api_Attr y2_3_7), (L 6 e_api_Node y2_4_8), (S y2_5_9)])), (5, (.rows true 39 1 (y5_10.map (eL 1 (eI .i64)))))]⟩) (.mk ⟨.same _, .same _, .same _, .same _, .same _, trivial⟩ ⟨.same _, .same _, trivial⟩) ?_
      refine Ok.skip ?_
      refine Ok.seq ?_
      refine Ok.block ?_
      refine Ok.seq ?_
      obtain ⟨c20, H⟩ := assertE H
      obtain ⟨t21, h22, H⟩ := bindE H
      refine Ok.drawE (σ' := ⟨[(1, (L 9 e_api_Step a1)), (2, (.bref 2 0)), (5, (.sref 5)), (6, (L 1 (eL 1 (eI .i64)) t1)), (7, (.v (.int .i64 x7_3))), (22, (.v (.bool t21)))], [(2, (.box true [(.v (.int .i64 y2_0_4)), (S y2_1_5), (S y2_2_6), (L 3 e_api_Attr y2_3_7), (L 6 e_api_Node y2_4_8), (S y2_5_9)])), (5, (.rows true 39 1 (y5_10.map (eL 1 (eI .i64)))))]⟩) [⟨true, [(2, (.bref 2 0))], (.agg (e_api_Node (T_api_Node.mk y2_0_4 (T_api_Name.mk y2_1_5 y2_2_6) y2_3_7 y2_4_8 y2_5_9)))⟩, ⟨true, [(1, (L 9 e_api_Step a1))], (L 9 e_api_Step a1)⟩, ⟨true, [(6, (L 1 (eL 1 (eI .i64)) t1))], (L 1 (eL 1 (eI .i64)) t1)⟩, ⟨true, [(7, (.v (.int .i64 x7_3)))], (.v (.int .i64 x7_3))⟩, ⟨true, [(18, (L 1 (eL 1 (eI .i64)) t1)), (19, (.v (.int .i64 x7_3)))], (.fp ((eL 1 (eI .i64)) (rd t1 x7_3)) 0)⟩, ⟨true, [(20, (.fp ((eL 1 (eI .i64)) (rd t1 x7_3)) 0))], (L 1 (eI .i64) (rd t1 x7_3))⟩, ⟨true, [(16, (.agg (e_api_Node (T_api_Node.mk y2_0_4 (T_api_Name.mk y2_1_5 y2_2_6) y2_3_7 y2_4_8 y2_5_9)))), (17, (L 9 e_api_Step a1)), (21, (L 1 (eI .i64) (rd t1 x7_3)))], (.v (.bool t21))⟩] [[], [], [], [], [2, 3], [4], [0, 1, 5]] mixed (by kernel_rfl) ?_ ?_
      · refine TxtE.cons rfl ⟨.same _, trivial⟩ rfl (VOk.g (VOk.to (d' := (.agg (e_api_Node (T_api_Node.mk y2_0_4 (T_api_Name.mk y2_1_5 y2_2_6) y2_3_7 y2_4_8 y2_5_9)))) (.loadBAgg rfl Try.underlying27 rfl sz27 rfl rfl rfl) (congrArg D.agg (e_api_Node_c (T_api_Node.mk y2_0_4 (T_api_Name.mk y2_1_5 y2_2_6) y2_3_7 y2_4_8 y2_5_9)).symm))) ?_
        refine TxtE.cons rfl ⟨.same _, trivial⟩ rfl (VOk.g (VOk.mv (d := (L 9 e_api_Step a1)) rfl rfl)) ?_
        refine TxtE.cons rfl ⟨.same _, trivial⟩ rfl (VOk.g (VOk.mv (d := (L 1 (eL 1 (eI .i64)) t1)) rfl rfl)) ?_
        refine TxtE.cons rfl ⟨.same _, trivial⟩ rfl (VOk.g (VOk.mv (d := (.v (.int .i64 x7_3))) rfl rfl)) ?_
        refine TxtE.cons rfl ⟨.same _, .same _, trivial⟩ rfl (VOk.g (VOk.indexL (sz := 1) (e := (eL 1 (eI .i64))) (xs := t1) (i := x7_3) rfl Try.underlying34 sz39 rfl rfl c20)) ?_
        refine TxtE.cons rfl ⟨.same _, trivial⟩ rfl (VOk.g (VOk.loadFp (d := (L 1 (eI .i64) (rd t1 x7_3))) rfl Try.underlying39 rfl rfl rfl)) ?_
        refine TxtE.cons rfl ⟨.same _, .same _, .same _, trivial⟩ rfl (GOk.call rfl rfl cl29 rfl (watchbillref12_Selects.ok h22) rfl) ?_
        exact .done (.mk ⟨.same _, .same _, .same _, .same _, .same _, .same _, trivial⟩ ⟨.same _, .same _, trivial⟩)
      refine Ok.test (b := t21) rfl (fun hb25 => ?_) (fun hb25 => ?_)
      · replace H := ifT H hb25
        obtain ⟨c23, H⟩ := assertE H
        obtain ⟨c24, H⟩ := assertE H
        refine Ok.region (σ' := ⟨[(1, (L 9 e_api_Step a1)), (2, (.bref 2 0)), (5, (.sref 5)), (6, (L 1 (eL 1 (eI .i64)) t1)), (7, (.v (.int .i64 x7_3)))], [(2, (.box true [(.v (.int .i64 y2_0_4)), (S y2_1_5), (S y2_2_6), (L 3 e_api_Attr y2_3_7), (L 6 e_api_Node y2_4_8), (S y2_5_9)])), (5, (.rows true 39 1 ((y5_10 ++ ([(rd t1 x7_3)] : List (List Int))).map (eL 1 (eI .i64)))))]⟩) ?_ ?_
        · refine OpsOk.cons rfl (.v (VOk.mv (d := (.sref 5)) rfl rfl) rfl) ?_
          refine OpsOk.cons rfl (.v (VOk.mv (d := (L 1 (eL 1 (eI .i64)) t1)) rfl rfl) rfl) ?_
          refine OpsOk.cons rfl (.v (VOk.mv (d := (.v (.int .i64 x7_3))) rfl rfl) rfl) ?_
          refine OpsOk.cons rfl (.v (VOk.indexL (sz := 1) (e := (eL 1 (eI .i64))) (xs := t1) (i := x7_3) rfl Try.underlying34 sz39 rfl rfl c23) rfl) ?_
          refine OpsOk.cons rfl (.v (VOk.loadFp (d := (L 1 (eI .i64) (rd t1 x7_3))) rfl Try.underlying39 rfl rfl rfl) rfl) ?_
          refine OpsOk.cons rfl (.g (GOk.to (d' := (L 1 (eL 1 (eI .i64)) ([(rd t1 x7_3)] : List (List Int)))) (GOk.lit rfl Try.underlying34 sz39 zs39 rfl rfl rfl rfl) rfl) rfl) ?_
          refine OpsOk.cons rfl (OpOk.appendL (e := (eL 1 (eI .i64))) (xs := y5_10) (ys := ([(rd t1 x7_3)] : List (List Int))) rfl Try.underlying34 elt39 rfl rfl rfl c24 rfl) ?_
          refine OpsOk.cons rfl (.v (VOk.asg (d := (.sref 5)) rfl rfl) rfl) ?_
          exact .done (.mk ⟨.same _, .same _, .same _, .same _, .same _, trivial⟩ ⟨.same _, .same _, trivial⟩)
        refine Ok.region (σ' := ⟨[(1, (L 9 e_api_Step a1)), (2, (.bref 2 0)), (5, (.sref 5)), (6, (L 1 (eL 1 (eI .i64)) t1)), (7, (.v (.int .i64 (IntKind.i64.wrap (x7_3 + 1)))))], [(2, (.box true [(.v (.int .i64 y2_0_4)), (S y2_1_5), (S y2_2_6), (L 3 e_api_Attr y2_3_7), (L 6 e_api_Node y2_4_8), (S y2_5_9)])), (5, (.rows true 39 1 ((y5_10 ++ ([(rd t1 x7_3)] : List (List Int))).map (eL 1 (eI .i64)))))]⟩) ?_ ?_
        · refine OpsOk.cons rfl (.v (VOk.mv (d := (.v (.int .i64 x7_3))) rfl rfl) rfl) ?_
          refine OpsOk.cons rfl (.v (VOk.arith (op := .add) (k := .i64) (a := x7_3) (b := 1) rfl rfl rfl rfl) rfl) ?_
          refine OpsOk.cons rfl (.v (VOk.asg (d := (.v (.int .i64 (IntKind.i64.wrap (x7_3 + 1))))) rfl rfl) rfl) ?_
          exact .done (.mk ⟨.same _, .same _, .same _, .same _, .same _, trivial⟩ ⟨.same _, .same _, trivial⟩)
        exact ⟨m19, Nat.lt_succ_self m19, y2_0_4, y2_1_5, y2_2_6, y2_3_7, y2_4_8, y2_5_9, (y5_10 ++ ([(rd t1 x7_3)] : List (List Int))), (IntKind.i64.wrap (x7_3 + 1)), rfl, H⟩
      · replace H := ifF H hb25
        refine Ok.le (σ' := ⟨[(1, (L 9 e_api_Step a1)), (2, (.bref 2 0)), (5, (.sref 5)), (6, (L 1 (eL 1 (eI .i64)) t1)), (7, (.v (.int .i64 x7_3)))], [(2, (.box true [(.v (.int .i64 y2_0_4)), (S y2_1_5), (S y2_2_6), (L 3 e_api_Attr y2_3_7), (L 6 e_api_Node y2_4_8), (S y2_5_9)])), (5, (.rows true 39 1 (y5_10.map (eL 1 (eI .i64)))))]⟩) (.mk ⟨.same _, .same _, .same _, .same _, .same _, trivial⟩ ⟨.same _, .same _, trivial⟩) ?_
        refine Ok.skip ?_
        refine Ok.region (σ' := ⟨[(1, (L 9 e_api_Step a1)), (2, (.bref 2 0)), (5, (.sref 5)), (6, (L 1 (eL 1 (eI .i64)) t1)), (7, (.v (.int .i64 (IntKind.i64.wrap (x7_3 + 1)))))], [(2, (.box true [(.v (.int .i64 y2_0_4)), (S y2_1_5), (S y2_2_6), (L 3 e_api_Attr y2_3_7), (L 6 e_api_Node y2_4_8), (S y2_5_9)])), (5, (.rows true 39 1 (y5_10.map (eL 1 (eI .i64)))))]⟩) ?_ ?_
        · refine OpsOk.cons rfl (.v (VOk.mv (d := (.v (.int .i64 x7_3))) rfl rfl) rfl) ?_
          refine OpsOk.cons rfl (.v (VOk.arith (op := .add) (k := .i64) (a := x7_3) (b := 1) rfl rfl rfl rfl) rfl) ?_
          refine OpsOk.cons rfl (.v (VOk.asg (d := (.v (.int .i64 (IntKind.i64.wrap (x7_3 + 1))))) rfl rfl) rfl) ?_
          exact .done (.mk ⟨.same _, .same _, .same _, .same _, .same _, trivial⟩ ⟨.same _, .same _, trivial⟩)
        exact ⟨m19, Nat.lt_succ_self m19, y2_0_4, y2_1_5, y2_2_6, y2_3_7, y2_4_8, y2_5_9, y5_10, (IntKind.i64.wrap (x7_3 + 1)), rfl, H⟩
    · replace H := ifF H hb26
      refine Ok.le (σ' := ⟨[(5, (.sref 5))], [(5, (.rows true 39 1 (y5_10.map (eL 1 (eI .i64)))))]⟩) (.mk ⟨.same _, trivial⟩ ⟨.same _, trivial⟩) ?_
      refine Ok.exit ?_
      refine Ok.seq ?_
      refine Ok.region (σ' := ⟨[(4, (.sref 5))], [(5, (.rows true 39 1 (y5_10.map (eL 1 (eI .i64)))))]⟩) ?_ ?_
      · refine OpsOk.cons rfl (.v (VOk.mv (d := (.sref 5)) rfl rfl) rfl) ?_
        refine OpsOk.cons rfl (.v (VOk.asg (d := (.sref 5)) rfl rfl) rfl) ?_
        exact .done (.mk ⟨.same _, trivial⟩ ⟨.same _, trivial⟩)
      refine Ok.frzL 5 (e := (eL 1 (eI .i64))) (xs := y5_10) rfl ?_
      refine Ok.le (σ' := ⟨[(4, (L 1 (eL 1 (eI .i64)) y5_10))], []⟩) (.mk ⟨.same _, trivial⟩ trivial) ?_
      refine Ok.ret ?_
      obtain rfl := Option.some.inj H
      exact ⟨.inl rfl, ⟨_, (.cons (.tmp rfl) .nil), rfl⟩, trivial⟩

/-! watchbill/watchbillref06.Same: function 14 -/
def watchbillref06_Same.l0 (k : Nat) (a0 : List Int) (a1 : List Int) : Nat → Int → Option Bool
  | 0, _ => none
  | m3 + 1, x5_1 => (if (decide (x5_1 < (a0.length : Int))) = true then (if (0 : Int) ≤ x5_1 ∧ x5_1 < (a0.length : Int) then (if (0 : Int) ≤ x5_1 ∧ x5_1 < (a1.length : Int) then (if ((rd a0 x5_1) != (rd a1 x5_1)) = true then some false else watchbillref06_Same.l0 k a0 a1 m3 (IntKind.i64.wrap (x5_1 + 1))) else none) else none) else some true)
def watchbillref06_Same (k : Nat) (a0 : List Int) (a1 : List Int) : Option Bool := (if ((a0.length : Int) != (a1.length : Int)) = true then some false else watchbillref06_Same.l0 k a0 a1 k 0)
theorem watchbillref06_Same.ok {k : Nat} {a0 : List Int} {a1 : List Int} {r : Bool} (H : watchbillref06_Same k a0 a1 = some r) : Vx.Fn Try.prog 14 [(L 1 (eI .i64) a0), (L 1 (eI .i64) a1)] [] (.v (.bool r)) [] := by
  unfold watchbillref06_Same at H
  refine Vx.Fn.of_okR Try.func14 rfl (Nat.le_of_ble_eq_true rfl) ?_
  refine Ok.seq ?_
  refine Ok.region (σ' := ⟨[(0, (L 1 (eI .i64) a0)), (1, (L 1 (eI .i64) a1))], []⟩) ?_ ?_
  · refine OpsOk.cons rfl (.v (VOk.asg (d := (.v (.bool false))) rfl rfl) rfl) ?_
    exact .done (.mk ⟨.same _, .same _, trivial⟩ trivial)
  refine Ok.seq ?_
  refine Ok.seq ?_
  refine Ok.region (σ' := ⟨[(0, (L 1 (eI .i64) a0)), (1, (L 1 (eI .i64) a1)), (10, (.v (.bool ((a0.length : Int) != (a1.length : Int)))))], []⟩) ?_ ?_
  · refine OpsOk.cons rfl (.v (VOk.mv (d := (L 1 (eI .i64) a0)) rfl rfl) rfl) ?_
    refine OpsOk.cons rfl (.v (VOk.lenL (e := (eI .i64)) (xs := a0) rfl Try.underlying39 rfl) rfl) ?_
    refine OpsOk.cons rfl (.v (VOk.mv (d := (L 1 (eI .i64) a1)) rfl rfl) rfl) ?_
    refine OpsOk.cons rfl (.v (VOk.lenL (e := (eI .i64)) (xs := a1) rfl Try.underlying39 rfl) rfl) ?_
    refine OpsOk.cons rfl (.v (VOk.arith (op := .neq) (k := .i64) (a := (a0.length : Int)) (b := (a1.length : Int)) rfl rfl rfl rfl) rfl) ?_
    exact .done (.mk ⟨.same _, .same _, .same _, trivial⟩ trivial)
  refine Ok.test (b := ((a0.length : Int) != (a1.length : Int))) rfl (fun hb8 => ?_) (fun hb8 => ?_)
  · replace H := ifT H hb8
    refine Ok.seq ?_
    refine Ok.region (σ' := ⟨[(4, (.v (.bool false)))], []⟩) ?_ ?_
    · refine OpsOk.cons rfl (.v (VOk.asg (d := (.v (.bool false))) rfl rfl) rfl) ?_
      exact .done (.mk ⟨.same _, trivial⟩ trivial)
    refine Ok.le (σ' := ⟨[(4, (.v (.bool false)))], []⟩) (.mk ⟨.same _, trivial⟩ trivial) ?_
    refine Ok.ret ?_
    obtain rfl := Option.some.inj H
    exact ⟨.inl rfl, ⟨_, (.cons (.tmp rfl) .nil), rfl⟩, trivial⟩
  · replace H := ifF H hb8
    refine Ok.le (σ' := ⟨[(0, (L 1 (eI .i64) a0)), (1, (L 1 (eI .i64) a1))], []⟩) (.mk ⟨.same _, .same _, trivial⟩ trivial) ?_
    refine Ok.skip ?_
    refine Ok.seq ?_
    refine Ok.seq ?_
    refine Ok.region (σ' := ⟨[(0, (L 1 (eI .i64) a0)), (1, (L 1 (eI .i64) a1)), (5, (.v (.int .i64 0)))], []⟩) ?_ ?_
    · refine OpsOk.cons rfl (.v (VOk.asg (d := (.v (.int .i64 0))) rfl rfl) rfl) ?_
      exact .done (.mk ⟨.same _, .same _, .same _, trivial⟩ trivial)
    refine Ok.block ?_
    refine Ok.le (σ' := ⟨[(0, (L 1 (eI .i64) a0)), (1, (L 1 (eI .i64) a1)), (5, (.v (.int .i64 0)))], []⟩) (.mk ⟨.same _, .same _, .same _, trivial⟩ trivial) ?_
    refine Ok.loop (fun m3 σ => ∃ (x5_1 : Int), σ = ⟨[(0, (L 1 (eI .i64) a0)), (1, (L 1 (eI .i64) a1)), (5, (.v (.int .i64 x5_1)))], []⟩ ∧ watchbillref06_Same.l0 k a0 a1 m3 x5_1 = some r) k ⟨0, rfl, H⟩ ?_
    rintro m3 σ ⟨x5_1, rfl, H⟩
    cases m3 with
    | zero => exact absurd H (by simp [watchbillref06_Same.l0])
    | succ m3 =>
      unfold watchbillref06_Same.l0 at H
      refine Ok.seq ?_
      refine Ok.seq ?_
      refine Ok.region (σ' := ⟨[(0, (L 1 (eI .i64) a0)), (1, (L 1 (eI .i64) a1)), (5, (.v (.int .i64 x5_1))), (14, (.v (.bool (decide (x5_1 < (a0.length : Int))))))], []⟩) ?_ ?_
      · refine OpsOk.cons rfl (.v (VOk.mv (d := (.v (.int .i64 x5_1))) rfl rfl) rfl) ?_
        refine OpsOk.cons rfl (.v (VOk.mv (d := (L 1 (eI .i64) a0)) rfl rfl) rfl) ?_
        refine OpsOk.cons rfl (.v (VOk.lenL (e := (eI .i64)) (xs := a0) rfl Try.underlying39 rfl) rfl) ?_
        refine OpsOk.cons rfl (.v (VOk.arith (op := .lss) (k := .i64) (a := x5_1) (b := (a0.length : Int)) rfl rfl rfl rfl) rfl) ?_
        exact .done (.mk ⟨.same _, .same _, .same _, .same _, trivial⟩ trivial)
      refine Ok.test (b := (decide (x5_1 < (a0.length : Int)))) rfl (fun hb7 => ?_) (fun hb7 => ?_)
      · replace H := ifT H hb7
        refine Ok.le (σ' := ⟨[(0, (L 1 (eI .i64) a0)), (1, (L 1 (eI .i64) a1)), (5, (.v (.int .i64 x5_1)))], []⟩) (.mk ⟨.same _, .same _, .same _, trivial⟩ trivial) ?_
        refine Ok.skip ?_
        refine Ok.seq ?_
        refine Ok.block ?_
        refine Ok.seq ?_
        obtain ⟨c4, H⟩ := assertE H
        obtain ⟨c5, H⟩ := assertE H
        refine Ok.drawE (σ' := ⟨[(0, (L 1 (eI .i64) a0)), (1, (L 1 (eI .i64) a1)), (5, (.v (.int .i64 x5_1))), (25, (.v (.bool ((rd a0 x5_1) != (rd a1 x5_1)))))], []⟩) [⟨true, [(0, (L 1 (eI .i64) a0))], (L 1 (eI .i64) a0)⟩, ⟨true, [(5, (.v (.int .i64 x5_1)))], (.v (.int .i64 x5_1))⟩, ⟨true, [(17, (L 1 (eI .i64) a0)), (18, (.v (.int .i64 x5_1)))], (.fp ((eI .i64) (rd a0 x5_1)) 0)⟩, ⟨true, [(19, (.fp ((eI .i64) (rd a0 x5_1)) 0))], (.v (.int .i64 (rd a0 x5_1)))⟩, ⟨true, [(1, (L 1 (eI .i64) a1))], (L 1 (eI .i64) a1)⟩, ⟨true, [(5, (.v (.int .i64 x5_1)))], (.v (.int .i64 x5_1))⟩, ⟨true, [(21, (L 1 (eI .i64) a1)), (22, (.v (.int .i64 x5_1)))], (.fp ((eI .i64) (rd a1 x5_1)) 0)⟩, ⟨true, [(23, (.fp ((eI .i64) (rd a1 x5_1)) 0))], (.v (.int .i64 (rd a1 x5_1)))⟩, ⟨true, [(20, (.v (.int .i64 (rd a0 x5_1)))), (24, (.v (.int .i64 (rd a1 x5_1))))], (.v (.bool ((rd a0 x5_1) != (rd a1 x5_1))))⟩] [[], [], [0, 1], [2], [], [], [4, 5], [6], [3, 7]] mixed (by kernel_rfl) ?_ ?_
        · refine TxtE.cons rfl ⟨.same _, trivial⟩ rfl (VOk.g (VOk.mv (d := (L 1 (eI .i64) a0)) rfl rfl)) ?_
          refine TxtE.cons rfl ⟨.same _, trivial⟩ rfl (VOk.g (VOk.mv (d := (.v (.int .i64 x5_1))) rfl rfl)) ?_
          refine TxtE.cons rfl ⟨.same _, .same _, trivial⟩ rfl (VOk.g (VOk.indexL (sz := 1) (e := (eI .i64)) (xs := a0) (i := x5_1) rfl Try.underlying39 sz3 rfl rfl c4)) ?_
          refine TxtE.cons rfl ⟨.same _, trivial⟩ rfl (VOk.g (VOk.loadFp (d := (.v (.int .i64 (rd a0 x5_1)))) rfl Try.underlying3 rfl rfl rfl)) ?_
          refine TxtE.cons rfl ⟨.same _, trivial⟩ rfl (VOk.g (VOk.mv (d := (L 1 (eI .i64) a1)) rfl rfl)) ?_
          refine TxtE.cons rfl ⟨.same _, trivial⟩ rfl (VOk.g (VOk.mv (d := (.v (.int .i64 x5_1))) rfl rfl)) ?_
          refine TxtE.cons rfl ⟨.same _, .same _, trivial⟩ rfl (VOk.g (VOk.indexL (sz := 1) (e := (eI .i64)) (xs := a1) (i := x5_1) rfl Try.underlying39 sz3 rfl rfl c5)) ?_
          refine TxtE.cons rfl ⟨.same _, trivial⟩ rfl (VOk.g (VOk.loadFp (d := (.v (.int .i64 (rd a1 x5_1)))) rfl Try.underlying3 rfl rfl rfl)) ?_
          refine TxtE.cons rfl ⟨.same _, .same _, trivial⟩ rfl (VOk.g (VOk.arith (op := .neq) (k := .i64) (a := (rd a0 x5_1)) (b := (rd a1 x5_1)) rfl rfl rfl rfl)) ?_
          exact .done (.mk ⟨.same _, .same _, .same _, .same _, trivial⟩ trivial)
        refine Ok.test (b := ((rd a0 x5_1) != (rd a1 x5_1))) rfl (fun hb6 => ?_) (fun hb6 => ?_)
        · replace H := ifT H hb6
          refine Ok.seq ?_
          refine Ok.region (σ' := ⟨[(4, (.v (.bool false)))], []⟩) ?_ ?_
          · refine OpsOk.cons rfl (.v (VOk.asg (d := (.v (.bool false))) rfl rfl) rfl) ?_
            exact .done (.mk ⟨.same _, trivial⟩ trivial)
          refine Ok.le (σ' := ⟨[(4, (.v (.bool false)))], []⟩) (.mk ⟨.same _, trivial⟩ trivial) ?_
          refine Ok.ret ?_
          obtain rfl := Option.some.inj H
          exact ⟨.inl rfl, ⟨_, (.cons (.tmp rfl) .nil), rfl⟩, trivial⟩
        · replace H := ifF H hb6
          refine Ok.le (σ' := ⟨[(0, (L 1 (eI .i64) a0)), (1, (L 1 (eI .i64) a1)), (5, (.v (.int .i64 x5_1)))], []⟩) (.mk ⟨.same _, .same _, .same _, trivial⟩ trivial) ?_
          refine Ok.skip ?_
          refine Ok.region (σ' := ⟨[(0, (L 1 (eI .i64) a0)), (1, (L 1 (eI .i64) a1)), (5, (.v (.int .i64 (IntKind.i64.wrap (x5_1 + 1)))))], []⟩) ?_ ?_
          · refine OpsOk.cons rfl (.v (VOk.mv (d := (.v (.int .i64 x5_1))) rfl rfl) rfl) ?_
            refine OpsOk.cons rfl (.v (VOk.arith (op := .add) (k := .i64) (a := x5_1) (b := 1) rfl rfl rfl rfl) rfl) ?_
            refine OpsOk.cons rfl (.v (VOk.asg (d := (.v (.int .i64 (IntKind.i64.wrap (x5_1 + 1))))) rfl rfl) rfl) ?_
            exact .done (.mk ⟨.same _, .same _, .same _, trivial⟩ trivial)
          exact ⟨m3, Nat.lt_succ_self m3, (IntKind.i64.wrap (x5_1 + 1)), rfl, H⟩
      · replace H := ifF H hb7
        refine Ok.le (σ' := ⟨[], []⟩) (.mk trivial trivial) ?_
        refine Ok.exit ?_
        refine Ok.seq ?_
        refine Ok.region (σ' := ⟨[(4, (.v (.bool true)))], []⟩) ?_ ?_
        · refine OpsOk.cons rfl (.v (VOk.asg (d := (.v (.bool true))) rfl rfl) rfl) ?_
          exact .done (.mk ⟨.same _, trivial⟩ trivial)
        refine Ok.le (σ' := ⟨[(4, (.v (.bool true)))], []⟩) (.mk ⟨.same _, trivial⟩ trivial) ?_
        refine Ok.ret ?_
        obtain rfl := Option.some.inj H
        exact ⟨.inl rfl, ⟨_, (.cons (.tmp rfl) .nil), rfl⟩, trivial⟩

end Go.Proofs.Ytldkgladombmcaa.Sh
