/- Walked here: the laws, printed; they call path.Insert and the like, whose contracts stand ahead. -/
import Derived.Test.YtjhbedgepfkdbaaPureT
namespace Go.Proofs.Ytjhbedgepfkdbaa.Sh
open Go Go.RowKit Go.Proofs.Vx
set_option linter.unusedVariables false
set_option maxRecDepth 100000
set_option maxHeartbeats 1000000
def watchbilllaw06_awake (k : Nat) : Option Bool := ((watchbilllaw06_one ([] : List T_api_Node)).bind fun (t1 : T_api_Node) => ((watchbilllaw06_one ([(T_api_Node.mk 2 (T_api_Name.mk ([] : Str) ([] : Str)) ([] : List T_api_Attr) ([] : List T_api_Node) ([120] : Str)), t1, (T_api_Node.mk 2 (T_api_Name.mk ([] : Str) ([] : Str)) ([] : List T_api_Attr) ([] : List T_api_Node) ([121] : Str))] : List T_api_Node)).bind fun (t3 : T_api_Node) => ((path_Remove k t3 ([1] : List Int)).bind fun (t5 : T_api_Node × Bool) => ((watchbilllaw06_one ([] : List T_api_Node)).bind fun (t7 : T_api_Node) => ((path_Insert k t3 t7 0 ([] : List Int)).bind fun (t9 : T_api_Node × Bool) => ((path_At k t3 ([3] : List Int)).bind fun (t11 : T_api_Node × Bool) => (if (((t5.2 && ((t5.1.Kids.length : Int) == 1)) == true) = true → (0 : Int) ≤ 0 ∧ 0 < (t5.1.Kids.length : Int)) then (((if ((((((t5.2 && ((t5.1.Kids.length : Int) == 1)) && (((rd t5.1.Kids 0).Text) == ([120, 121] : Str))) && t9.2) && ((t9.1.Kids.length : Int) == 4)) && (!t11.2)) == true) = true then path_Places k t3 else some default)).bind fun (t25 : (List (List Int))) => some ((((((t5.2 && ((t5.1.Kids.length : Int) == 1)) && (((rd t5.1.Kids 0).Text) == ([120, 121] : Str))) && t9.2) && ((t9.1.Kids.length : Int) == 4)) && (!t11.2)) && ((t25.length : Int) == 2))) else none)))))))
theorem watchbilllaw06_awake.ok {k : Nat} {r : Bool} (H : watchbilllaw06_awake k = some r) : Vx.Fn Try.prog 6 [] [] (.v (.bool r)) [] := by
  unfold watchbilllaw06_awake at H
  refine Vx.Fn.of_okR Try.func6 rfl (Nat.le_of_ble_eq_true rfl) ?_
  refine Ok.seq ?_
  refine Ok.region (σ' := ⟨[], []⟩) ?_ ?_
  · refine .cv (VOk.asg (d := (.v (.bool false))) rfl rfl) rfl rfl ?_
    exact .done (.rf rfl rfl)
  refine Ok.seq ?_
  obtain ⟨t1, h2, H⟩ := bindE H
  obtain ⟨t3, h4, H⟩ := bindE H
  refine Ok.region (σ' := ⟨[(1, (.bref 1 0))], [(1, (.box .ex (c_api_Node t3)))]⟩) ?_ ?_
  · refine .cv (VOk.to (d' := (.agg (e_api_Node (T_api_Node.mk 2 (T_api_Name.mk ([] : Str) ([] : Str)) ([] : List T_api_Attr) ([] : List T_api_Node) ([120] : Str))))) (.build [none, none, none, some 3, some 6, none] [(0, 1), (1, 2), (3, 1), (4, 1), (5, 1)] rfl Try.underlying27 (fa27 Try.underlying27) zo27 rfl rfl) (congrArg D.agg (e_api_Node_c (T_api_Node.mk 2 (T_api_Name.mk ([] : Str) ([] : Str)) ([] : List T_api_Attr) ([] : List T_api_Node) ([120] : Str))).symm)) rfl rfl ?_
    refine .cg (GOk.call rfl rfl cl25 rfl (Fn.weak (ds := [(L 6 e_api_Node ([] : List T_api_Node))]) (watchbilllaw06_one.ok h2) ⟨.nil _, trivial⟩) rfl) rfl rfl ?_
    refine .cv (VOk.to (d' := (.agg (e_api_Node (T_api_Node.mk 2 (T_api_Name.mk ([] : Str) ([] : Str)) ([] : List T_api_Attr) ([] : List T_api_Node) ([121] : Str))))) (.build [none, none, none, some 3, some 6, none] [(0, 1), (1, 2), (3, 1), (4, 1), (5, 1)] rfl Try.underlying27 (fa27 Try.underlying27) zo27 rfl rfl) (congrArg D.agg (e_api_Node_c (T_api_Node.mk 2 (T_api_Name.mk ([] : Str) ([] : Str)) ([] : List T_api_Attr) ([] : List T_api_Node) ([121] : Str))).symm)) rfl rfl ?_
    refine .cg (GOk.to (d' := (L 6 e_api_Node ([(T_api_Node.mk 2 (T_api_Name.mk ([] : Str) ([] : Str)) ([] : List T_api_Attr) ([] : List T_api_Node) ([120] : Str)), t1, (T_api_Node.mk 2 (T_api_Name.mk ([] : Str) ([] : Str)) ([] : List T_api_Attr) ([] : List T_api_Node) ([121] : Str))] : List T_api_Node))) (GOk.lit rfl Try.underlying25 sz27 zs27 rfl rfl rfl rfl) rfl) rfl rfl ?_
    refine .cg (GOk.call rfl rfl cl25 rfl (watchbilllaw06_one.ok h4) rfl) rfl rfl ?_
    refine OpsOk.cons rfl (OpOk.alloc 1 [none, none, none, some 3, some 6, none] rfl zo27 rfl rfl) ?_
    refine OpsOk.cut1 12 (.agg [(.v (.int .i64 t3.Kind)), (S t3.Name.Space), (S t3.Name.Local), (L 3 e_api_Attr t3.Attrs), (L 6 e_api_Node t3.Kids), (S t3.Text)]) (DLe.of_eq (congrArg D.agg (e_api_Node_c _).symm)) ?_
    refine OpsOk.cons rfl (OpOk.to (σ2 := St.put ⟨_, (1, (.box .ex (c_api_Node t3))) :: _⟩ _ .junk) (.storeB rfl sz27 rfl rfl rfl rfl rfl rfl) rfl) ?_
    exact .done (.rf rfl rfl)
  refine Ok.seq ?_
  obtain ⟨t5, h6, H⟩ := bindE H
  refine Ok.region (σ' := ⟨[(1, (.bref 1 0)), (2, (.bref 2 0)), (3, (.v (.bool t5.2)))], [(1, (.box .ex (c_api_Node t3))), (2, (.box .ex (c_api_Node t5.1)))]⟩) ?_ ?_
  · refine .cv (VOk.to (d' := (.agg (e_api_Node t3))) (.loadBAgg rfl Try.underlying27 rfl sz27 rfl rfl rfl) (congrArg D.agg (e_api_Node_c t3).symm)) rfl rfl ?_
    refine .cg (GOk.to (d' := (L 1 (eI .i64) ([1] : List Int))) (GOk.lit rfl Try.underlying28 sz3 zs3 rfl rfl rfl rfl) rfl) rfl rfl ?_
    refine .cg (GOk.call rfl rfl cl21 rfl (path_Remove.ok h6) rfl) rfl rfl ?_
    refine .cv (VOk.mv (d := (.tup [(.agg (e_api_Node t5.1)), (.v (.bool t5.2))])) rfl rfl) rfl rfl ?_
    refine .cv (VOk.extract (d := (.agg (e_api_Node t5.1))) rfl rfl rfl) rfl rfl ?_
    refine .cv (VOk.extract (d := (.v (.bool t5.2))) rfl rfl rfl) rfl rfl ?_
    refine OpsOk.cons rfl (OpOk.alloc 2 [none, none, none, some 3, some 6, none] rfl zo27 rfl rfl) ?_
    refine OpsOk.cut1 17 (.agg [(.v (.int .i64 t5.1.Kind)), (S t5.1.Name.Space), (S t5.1.Name.Local), (L 3 e_api_Attr t5.1.Attrs), (L 6 e_api_Node t5.1.Kids), (S t5.1.Text)]) (DLe.of_eq (congrArg D.agg (e_api_Node_c _).symm)) ?_
    refine OpsOk.cons rfl (OpOk.to (σ2 := St.put ⟨_, (2, (.box .ex (c_api_Node t5.1))) :: _⟩ _ .junk) (.storeB rfl sz27 rfl rfl rfl rfl rfl rfl) rfl) ?_
    refine .cv (VOk.asg (d := (.v (.bool t5.2))) rfl rfl) rfl rfl ?_
    exact .done (.rf rfl rfl)
  refine Ok.seq ?_
  obtain ⟨t7, h8, H⟩ := bindE H
  obtain ⟨t9, h10, H⟩ := bindE H
  refine Ok.le (σ' := ⟨[(1, (.bref 1 0)), (2, (.bref 2 0)), (3, (.v (.bool t5.2)))], [(1, (.box .ex (c_api_Node t3))), (2, (.box .ex (c_api_Node t5.1)))]⟩) (.rf rfl rfl) ?_
  refine Ok.drawE2 (σ' := ⟨[(1, (.bref 1 0)), (2, (.bref 2 0)), (3, (.v (.bool t5.2))), (4, (.bref 4 0)), (5, (.v (.bool t9.2)))], [(1, (.box .ex (c_api_Node t3))), (2, (.box .ex (c_api_Node t5.1))), (4, (.box .ex (c_api_Node t9.1)))]⟩) [⟨true, [(1, (.bref 1 0))], [(1, (.box .ex (c_api_Node t3)))], (.agg (e_api_Node t3)), [], false, []⟩, ⟨true, [], [], (.agg (e_api_Node t7)), [], false, []⟩, ⟨true, [(20, (.agg (e_api_Node t3))), (21, (.agg (e_api_Node t7)))], [], (.tup [(.agg (e_api_Node t9.1)), (.v (.bool t9.2))]), [], false, []⟩, ⟨true, [(22, (.tup [(.agg (e_api_Node t9.1)), (.v (.bool t9.2))]))], [], (.tup [(.agg (e_api_Node t9.1)), (.v (.bool t9.2))]), [], false, []⟩, ⟨true, [(19, (.tup [(.agg (e_api_Node t9.1)), (.v (.bool t9.2))]))], [], (.agg (e_api_Node t9.1)), [], false, []⟩, ⟨true, [(19, (.tup [(.agg (e_api_Node t9.1)), (.v (.bool t9.2))]))], [], (.v (.bool t9.2)), [], false, []⟩, ⟨true, [], [], (.bref 4 0), [(4, (.box .ex [(.v (.int .i64 0)), (S ([] : Str)), (S ([] : Str)), (L 3 e_api_Attr ([] : List T_api_Attr)), (L 6 e_api_Node ([] : List T_api_Node)), (S ([] : Str))]))], true, []⟩, ⟨true, [(4, (.bref 4 0)), (23, (.agg [(.v (.int .i64 t9.1.Kind)), (S t9.1.Name.Space), (S t9.1.Name.Local), (L 3 e_api_Attr t9.1.Attrs), (L 6 e_api_Node t9.1.Kids), (S t9.1.Text)]))], [(4, (.box .ex [(.v (.int .i64 0)), (S ([] : Str)), (S ([] : Str)), (L 3 e_api_Attr ([] : List T_api_Attr)), (L 6 e_api_Node ([] : List T_api_Node)), (S ([] : Str))]))], .junk, [(4, (.box .ex (c_api_Node t9.1)))], false, []⟩, ⟨true, [(24, (.v (.bool t9.2)))], [], (.v (.bool t9.2)), [], false, []⟩] [[], [], [0, 1], [2], [3], [3], [], [4, 6], [5]] mixed (by kernel_rfl) ?_ ?_
  · refine TxtE2.cons ⟨.same _, trivial⟩ ⟨rfl, trivial⟩ (It2.val rfl rfl (fun T hT => (VOk.g (VOk.to (d' := (.agg (e_api_Node t3))) (.loadBAgg rfl Try.underlying27 rfl sz27 rfl hT.1 rfl) (congrArg D.agg (e_api_Node_c t3).symm))))) ?_
    refine TxtE2.cons trivial trivial (It2.val rfl rfl (fun T hT => (GOk.call rfl rfl cl25 rfl (Fn.weak (ds := [(L 6 e_api_Node ([] : List T_api_Node))]) (watchbilllaw06_one.ok h8) ⟨.nil _, trivial⟩) rfl))) ?_
    refine TxtE2.cons ⟨.same _, .same _, trivial⟩ trivial (It2.val rfl rfl (fun T hT => (GOk.call rfl rfl cl20 rfl (Fn.weak (ds := [(.agg (e_api_Node t3)), (.agg (e_api_Node t7)), (.v (.int .i64 0)), (L 1 (eI .i64) ([] : List Int))]) (path_Insert.ok h10) ⟨.same _, .same _, .same _, .nil _, trivial⟩) rfl))) ?_
    refine TxtE2.cons ⟨.same _, trivial⟩ trivial (It2.val rfl rfl (fun T hT => (VOk.g (VOk.mv (d := (.tup [(.agg (e_api_Node t9.1)), (.v (.bool t9.2))])) rfl rfl)))) ?_
    refine TxtE2.cons ⟨.same _, trivial⟩ trivial (It2.val rfl rfl (fun T hT => (VOk.g (VOk.extract (d := (.agg (e_api_Node t9.1))) rfl rfl rfl)))) ?_
    refine TxtE2.cons ⟨.same _, trivial⟩ trivial (It2.val rfl rfl (fun T hT => (VOk.g (VOk.extract (d := (.v (.bool t9.2))) rfl rfl rfl)))) ?_
    refine TxtE2.cons trivial trivial (It2.alloc 4 [none, none, none, some 3, some 6, none] rfl rfl zo27 rfl rfl) ?_
    refine TxtE2.cons ⟨.same _, DLe.of_eq (congrArg D.agg (e_api_Node_c _).symm), trivial⟩ ⟨rfl, trivial⟩ (It2.store rfl rfl sz27 rfl rfl rfl rfl rfl rfl rfl rfl) ?_
    refine TxtE2.cons ⟨.same _, trivial⟩ trivial (It2.val rfl rfl (fun T hT => (VOk.g (VOk.asg (d := (.v (.bool t9.2))) rfl rfl)))) ?_
    exact .done (.rf rfl rfl)
  refine Ok.seq ?_
  obtain ⟨t11, h12, H⟩ := bindE H
  refine Ok.region (σ' := ⟨[(1, (.bref 1 0)), (2, (.bref 2 0)), (3, (.v (.bool t5.2))), (4, (.bref 4 0)), (5, (.v (.bool t9.2))), (7, (.v (.bool t11.2)))], [(1, (.box .ex (c_api_Node t3))), (2, (.box .ex (c_api_Node t5.1))), (4, (.box .ex (c_api_Node t9.1)))]⟩) ?_ ?_
  · refine .cv (VOk.to (d' := (.agg (e_api_Node t3))) (.loadBAgg rfl Try.underlying27 rfl sz27 rfl rfl rfl) (congrArg D.agg (e_api_Node_c t3).symm)) rfl rfl ?_
    refine .cg (GOk.to (d' := (L 1 (eI .i64) ([3] : List Int))) (GOk.lit rfl Try.underlying28 sz3 zs3 rfl rfl rfl rfl) rfl) rfl rfl ?_
    refine .cg (GOk.call rfl rfl cl8 rfl (path_At.ok h12) rfl) rfl rfl ?_
    refine .cv (VOk.mv (d := (.tup [(.agg (e_api_Node t11.1)), (.v (.bool t11.2))])) rfl rfl) rfl rfl ?_
    refine .cv (VOk.extract (d := (.agg (e_api_Node t11.1))) rfl rfl rfl) rfl rfl ?_
    refine .cv (VOk.extract (d := (.v (.bool t11.2))) rfl rfl rfl) rfl rfl ?_
    refine OpsOk.cons rfl (OpOk.alloc 6 [none, none, none, some 3, some 6, none] rfl zo27 rfl rfl) ?_
    refine OpsOk.cut1 29 (.agg [(.v (.int .i64 t11.1.Kind)), (S t11.1.Name.Space), (S t11.1.Name.Local), (L 3 e_api_Attr t11.1.Attrs), (L 6 e_api_Node t11.1.Kids), (S t11.1.Text)]) (DLe.of_eq (congrArg D.agg (e_api_Node_c _).symm)) ?_
    refine OpsOk.cons rfl (OpOk.to (σ2 := St.put ⟨_, (6, (.box .ex (c_api_Node t11.1))) :: _⟩ _ .junk) (.storeB rfl sz27 rfl rfl rfl rfl rfl rfl) rfl) ?_
    refine .cv (VOk.asg (d := (.v (.bool t11.2))) rfl rfl) rfl rfl ?_
    exact .done (.rf rfl rfl)
  refine Ok.seq ?_
  obtain ⟨c16, H⟩ := assertE H
  obtain ⟨t25, h26, H⟩ := bindE H
  refine Ok.region (σ' := ⟨[(0, (.v (.bool ((((((t5.2 && ((t5.1.Kids.length : Int) == 1)) && (((rd t5.1.Kids 0).Text) == ([120, 121] : Str))) && t9.2) && ((t9.1.Kids.length : Int) == 4)) && (!t11.2)) && ((t25.length : Int) == 2)))))], []⟩) ?_ ?_
  · refine .cv (VOk.mv (d := (.v (.bool t5.2))) rfl rfl) rfl rfl ?_
    refine .cv (VOk.mv (d := (.v (.bool t5.2))) rfl rfl) rfl rfl ?_
    refine OpsOk.consI rfl rfl rfl (.one rfl) rfl (fun hw13 => (VOk.g (VOk.to (VOk.fieldB rfl Try.underlying27 rfl sz25 rfl rfl) rfl))) ?_
    refine OpsOk.consI rfl rfl rfl (.one rfl) rfl (fun hw13 => (GOk.fr (fr' := [(33, (.bref 2 4))]) ⟨DLe.of_eq (cT hw13).symm, trivial⟩ (VOk.g (VOk.loadB (d := (L 6 e_api_Node t5.1.Kids)) rfl Try.underlying25 rfl rfl rfl rfl)))) ?_
    refine OpsOk.consI rfl rfl rfl (.one rfl) rfl (fun hw13 => (GOk.fr (fr' := [(34, (L 6 e_api_Node t5.1.Kids))]) ⟨DLe.of_eq (cT hw13).symm, trivial⟩ (VOk.g (VOk.lenL (e := e_api_Node) (xs := t5.1.Kids) rfl Try.underlying25 rfl)))) ?_
    refine OpsOk.consI rfl rfl rfl (.one rfl) rfl (fun hw13 => (GOk.fr (fr' := [(35, (.v (.int .i64 (t5.1.Kids.length : Int))))]) ⟨DLe.of_eq (cT hw13).symm, trivial⟩ (VOk.g (VOk.arith (op := .eql) (k := .i64) (a := (t5.1.Kids.length : Int)) (b := 1) rfl rfl rfl rfl)))) ?_
    refine .cv (VOk.to (VOk.pickI (b := t5.2) (p := ((t5.1.Kids.length : Int) == 1)) (q := false) rfl rfl (fun hp14 => (cT (t_beq hp14))) (fun hp14 => rfl)) (pickAnd t5.2 ((t5.1.Kids.length : Int) == 1))) rfl rfl ?_
    refine .cv (VOk.mv (d := (.v (.bool (t5.2 && ((t5.1.Kids.length : Int) == 1))))) rfl rfl) rfl rfl ?_
    refine OpsOk.consI rfl rfl rfl (.one rfl) rfl (fun hw15 => (VOk.g (VOk.to (VOk.fieldB rfl Try.underlying27 rfl sz25 rfl rfl) rfl))) ?_
    refine OpsOk.consI rfl rfl rfl (.one rfl) rfl (fun hw15 => (GOk.fr (fr' := [(39, (.bref 2 4))]) ⟨DLe.of_eq (cT hw15).symm, trivial⟩ (VOk.g (VOk.loadB (d := (L 6 e_api_Node t5.1.Kids)) rfl Try.underlying25 rfl rfl rfl rfl)))) ?_
    refine OpsOk.consI rfl rfl rfl (.one rfl) rfl (fun hw15 => (GOk.fr (fr' := [(40, (L 6 e_api_Node t5.1.Kids))]) ⟨DLe.of_eq (cT hw15).symm, trivial⟩ (VOk.g (VOk.indexL (sz := 6) (e := e_api_Node) (xs := t5.1.Kids) (i := 0) rfl Try.underlying25 sz27 rfl rfl (c16 hw15))))) ?_
    refine OpsOk.consI rfl rfl rfl (.one rfl) rfl (fun hw15 => (GOk.fr (fr' := [(41, (.fp (e_api_Node (rd t5.1.Kids 0)) 0))]) ⟨DLe.of_eq (cT hw15).symm, trivial⟩ (VOk.g (VOk.to (VOk.fieldFp rfl Try.underlying27 rfl sz9 rfl) rfl)))) ?_
    refine OpsOk.consI rfl rfl rfl (.one rfl) rfl (fun hw15 => (GOk.fr (fr' := [(42, (.fp (e_api_Node (rd t5.1.Kids 0)) 5))]) ⟨DLe.of_eq (cT hw15).symm, trivial⟩ (VOk.g (VOk.loadFp (d := (S ((rd t5.1.Kids 0).Text))) rfl Try.underlying9 rfl rfl rfl)))) ?_
    refine OpsOk.consI rfl rfl rfl (.one rfl) rfl (fun hw15 => (GOk.fr (fr' := [(43, (S ((rd t5.1.Kids 0).Text)))]) ⟨DLe.of_eq (cT hw15).symm, trivial⟩ (VOk.g (VOk.strOp (op := .eql) (a := (rd t5.1.Kids 0).Text) (b := ([120, 121] : Str)) rfl rfl rfl rfl)))) ?_
    refine .cv (VOk.to (VOk.pickI (b := (t5.2 && ((t5.1.Kids.length : Int) == 1))) (p := (((rd t5.1.Kids 0).Text) == ([120, 121] : Str))) (q := false) rfl rfl (fun hp17 => (cT (t_beq hp17))) (fun hp17 => rfl)) (pickAnd (t5.2 && ((t5.1.Kids.length : Int) == 1)) (((rd t5.1.Kids 0).Text) == ([120, 121] : Str)))) rfl rfl ?_
    refine .cv (VOk.mv (d := (.v (.bool ((t5.2 && ((t5.1.Kids.length : Int) == 1)) && (((rd t5.1.Kids 0).Text) == ([120, 121] : Str)))))) rfl rfl) rfl rfl ?_
    refine OpsOk.consI rfl rfl rfl (.one rfl) rfl (fun hw18 => (VOk.g (VOk.mv (d := (.v (.bool t9.2))) rfl rfl))) ?_
    refine .cv (VOk.to (VOk.pickI (b := ((t5.2 && ((t5.1.Kids.length : Int) == 1)) && (((rd t5.1.Kids 0).Text) == ([120, 121] : Str)))) (p := t9.2) (q := false) rfl rfl (fun hp19 => (cT (t_beq hp19))) (fun hp19 => rfl)) (pickAnd ((t5.2 && ((t5.1.Kids.length : Int) == 1)) && (((rd t5.1.Kids 0).Text) == ([120, 121] : Str))) t9.2)) rfl rfl ?_
    refine .cv (VOk.mv (d := (.v (.bool (((t5.2 && ((t5.1.Kids.length : Int) == 1)) && (((rd t5.1.Kids 0).Text) == ([120, 121] : Str))) && t9.2)))) rfl rfl) rfl rfl ?_
    refine OpsOk.consI rfl rfl rfl (.one rfl) rfl (fun hw20 => (VOk.g (VOk.to (VOk.fieldB rfl Try.underlying27 rfl sz25 rfl rfl) rfl))) ?_
    refine OpsOk.consI rfl rfl rfl (.one rfl) rfl (fun hw20 => (GOk.fr (fr' := [(50, (.bref 4 4))]) ⟨DLe.of_eq (cT hw20).symm, trivial⟩ (VOk.g (VOk.loadB (d := (L 6 e_api_Node t9.1.Kids)) rfl Try.underlying25 rfl rfl rfl rfl)))) ?_
    refine OpsOk.consI rfl rfl rfl (.one rfl) rfl (fun hw20 => (GOk.fr (fr' := [(51, (L 6 e_api_Node t9.1.Kids))]) ⟨DLe.of_eq (cT hw20).symm, trivial⟩ (VOk.g (VOk.lenL (e := e_api_Node) (xs := t9.1.Kids) rfl Try.underlying25 rfl)))) ?_
    refine OpsOk.consI rfl rfl rfl (.one rfl) rfl (fun hw20 => (GOk.fr (fr' := [(52, (.v (.int .i64 (t9.1.Kids.length : Int))))]) ⟨DLe.of_eq (cT hw20).symm, trivial⟩ (VOk.g (VOk.arith (op := .eql) (k := .i64) (a := (t9.1.Kids.length : Int)) (b := 4) rfl rfl rfl rfl)))) ?_
    refine .cv (VOk.to (VOk.pickI (b := (((t5.2 && ((t5.1.Kids.length : Int) == 1)) && (((rd t5.1.Kids 0).Text) == ([120, 121] : Str))) && t9.2)) (p := ((t9.1.Kids.length : Int) == 4)) (q := false) rfl rfl (fun hp21 => (cT (t_beq hp21))) (fun hp21 => rfl)) (pickAnd (((t5.2 && ((t5.1.Kids.length : Int) == 1)) && (((rd t5.1.Kids 0).Text) == ([120, 121] : Str))) && t9.2) ((t9.1.Kids.length : Int) == 4))) rfl rfl ?_
    refine .cv (VOk.mv (d := (.v (.bool ((((t5.2 && ((t5.1.Kids.length : Int) == 1)) && (((rd t5.1.Kids 0).Text) == ([120, 121] : Str))) && t9.2) && ((t9.1.Kids.length : Int) == 4))))) rfl rfl) rfl rfl ?_
    refine OpsOk.consI rfl rfl rfl (.one rfl) rfl (fun hw22 => (VOk.g (VOk.mv (d := (.v (.bool t11.2))) rfl rfl))) ?_
    refine OpsOk.consI rfl rfl rfl (.one rfl) rfl (fun hw22 => (GOk.fr (fr' := [(56, (.v (.bool t11.2)))]) ⟨DLe.of_eq (cT hw22).symm, trivial⟩ (VOk.g (VOk.not (b := t11.2) rfl rfl)))) ?_
    refine .cv (VOk.to (VOk.pickI (b := ((((t5.2 && ((t5.1.Kids.length : Int) == 1)) && (((rd t5.1.Kids 0).Text) == ([120, 121] : Str))) && t9.2) && ((t9.1.Kids.length : Int) == 4))) (p := (!t11.2)) (q := false) rfl rfl (fun hp23 => (cT (t_beq hp23))) (fun hp23 => rfl)) (pickAnd ((((t5.2 && ((t5.1.Kids.length : Int) == 1)) && (((rd t5.1.Kids 0).Text) == ([120, 121] : Str))) && t9.2) && ((t9.1.Kids.length : Int) == 4)) (!t11.2))) rfl rfl ?_
    refine .cv (VOk.mv (d := (.v (.bool (((((t5.2 && ((t5.1.Kids.length : Int) == 1)) && (((rd t5.1.Kids 0).Text) == ([120, 121] : Str))) && t9.2) && ((t9.1.Kids.length : Int) == 4)) && (!t11.2))))) rfl rfl) rfl rfl ?_
    refine OpsOk.consI rfl rfl rfl (.one rfl) rfl (fun hw24 => (VOk.g (VOk.to (d' := (.agg (e_api_Node t3))) (.loadBAgg rfl Try.underlying27 rfl sz27 rfl rfl rfl) (congrArg D.agg (e_api_Node_c t3).symm)))) ?_
    refine OpsOk.consI rfl rfl rfl (.one rfl) rfl (fun hw24 => (GOk.fr (fr' := [(60, (.agg (e_api_Node t3)))]) ⟨DLe.of_eq (cT hw24).symm, trivial⟩ (GOk.call rfl rfl cl10 rfl (path_Places.ok (ifT h26 hw24)) rfl))) ?_
    refine OpsOk.consI rfl rfl rfl (.one rfl) rfl (fun hw24 => (GOk.fr (fr' := [(61, (L 1 (eL 1 (eI .i64)) t25))]) ⟨DLe.of_eq (cT hw24).symm, trivial⟩ (VOk.g (VOk.lenL (e := (eL 1 (eI .i64))) (xs := t25) rfl Try.underlying34 rfl)))) ?_
    refine OpsOk.consI rfl rfl rfl (.one rfl) rfl (fun hw24 => (GOk.fr (fr' := [(62, (.v (.int .i64 (t25.length : Int))))]) ⟨DLe.of_eq (cT hw24).symm, trivial⟩ (VOk.g (VOk.arith (op := .eql) (k := .i64) (a := (t25.length : Int)) (b := 2) rfl rfl rfl rfl)))) ?_
    refine .cv (VOk.to (VOk.pickI (b := (((((t5.2 && ((t5.1.Kids.length : Int) == 1)) && (((rd t5.1.Kids 0).Text) == ([120, 121] : Str))) && t9.2) && ((t9.1.Kids.length : Int) == 4)) && (!t11.2))) (p := ((t25.length : Int) == 2)) (q := false) rfl rfl (fun hp27 => (cT (t_beq hp27))) (fun hp27 => rfl)) (pickAnd (((((t5.2 && ((t5.1.Kids.length : Int) == 1)) && (((rd t5.1.Kids 0).Text) == ([120, 121] : Str))) && t9.2) && ((t9.1.Kids.length : Int) == 4)) && (!t11.2)) ((t25.length : Int) == 2))) rfl rfl ?_
    refine .cv (VOk.asg (d := (.v (.bool ((((((t5.2 && ((t5.1.Kids.length : Int) == 1)) && (((rd t5.1.Kids 0).Text) == ([120, 121] : Str))) && t9.2) && ((t9.1.Kids.length : Int) == 4)) && (!t11.2)) && ((t25.length : Int) == 2))))) rfl rfl) rfl rfl ?_
    exact .done (.rf rfl rfl)
  refine Ok.ret ?_
  obtain rfl := Option.some.inj H
  exact ⟨.inl rfl, ⟨_, (.cons (.tmp rfl) .nil), rfl⟩, trivial⟩

def watchbilllaw06_PathPlaces.l0 (k : Nat) (a1 : List Int) (t8 : T_api_Node × Bool) (t12 : (List (List Int))) (t14 : (List (List Int))) : Nat → Int → Str → Str → List T_api_Attr → List T_api_Node → Str → Int → Str → Str → List T_api_Attr → List T_api_Node → Str → Bool → Int → Option Bool
  | 0, _, _, _, _, _, _, _, _, _, _, _, _, _, _ => none
  | m48 + 1, y2_0_22, y2_1_23, y2_2_24, y2_3_25, y2_4_26, y2_5_27, y5_0_28, y5_1_29, y5_2_30, y5_3_31, y5_4_32, y5_5_33, x11_20, x12_21 => (if (decide (x12_21 < (t12.length : Int))) = true then (if (0 : Int) ≤ x12_21 ∧ x12_21 < (t12.length : Int) then (if (0 : Int) ≤ x12_21 ∧ x12_21 < (t14.length : Int) then ((watchbillref06_Same k (rd t12 x12_21) (rd t14 x12_21)).bind fun (t51 : Bool) => (if (!t51) = true then some false else (if ((x11_20 == false) = true → (0 : Int) ≤ x12_21 ∧ x12_21 < (t12.length : Int)) then (((if (x11_20 == false) = true then watchbillref06_Same k (rd t12 x12_21) a1 else some default)).bind fun (t55 : Bool) => watchbilllaw06_PathPlaces.l0 k a1 t8 t12 t14 m48 y2_0_22 y2_1_23 y2_2_24 y2_3_25 y2_4_26 y2_5_27 y5_0_28 y5_1_29 y5_2_30 y5_3_31 y5_4_32 y5_5_33 (x11_20 || t55) (IntKind.i64.wrap (x12_21 + 1))) else none))) else none) else none) else (((if ((t8.2 && (y5_0_28 == 1)) == true) = true then watchbilllaw06_elements k (T_api_Node.mk y2_0_22 (T_api_Name.mk y2_1_23 y2_2_24) y2_3_25 y2_4_26 y2_5_27) a1 else some default)).bind fun (t62 : Bool) => some (x11_20 == ((t8.2 && (y5_0_28 == 1)) && t62))))
def watchbilllaw06_PathPlaces (k : Nat) (a0 : T_api_Node) (a1 : List Int) : Option Bool := ((watchbilllaw06_awake k).bind fun (t1 : Bool) => (if (!t1) = true then some false else ((watchbilllaw04_Few k a0).bind fun (t3 : Bool) => (if ((!t3) || (decide ((a1.length : Int) > 1000))) = true then some true else (if (([] : List Int).length + a1.length) * 8 ≤ 140737488355328 then ((path_At k a0 (([] : List Int) ++ a1)).bind fun (t8 : T_api_Node × Bool) => ((watchbillref06_At k a0 a1).bind fun (t10 : T_api_Node × Bool) => ((path_Places k a0).bind fun (t12 : (List (List Int))) => ((watchbillref06_Places k a0).bind fun (t14 : (List (List Int))) => ((watchbilllaw06_same k t8.1 t10.1 t8.2 t10.2).bind fun (t16 : Bool) => (if ((!t16) || ((t12.length : Int) != (t14.length : Int))) = true then some false else watchbilllaw06_PathPlaces.l0 k a1 t8 t12 t14 k a0.Kind a0.Name.Space a0.Name.Local a0.Attrs a0.Kids a0.Text t8.1.Kind t8.1.Name.Space t8.1.Name.Local t8.1.Attrs t8.1.Kids t8.1.Text false 0)))))) else none)))))
theorem watchbilllaw06_PathPlaces.ok {k : Nat} {a0 : T_api_Node} {a1 : List Int} {r : Bool} (H : watchbilllaw06_PathPlaces k a0 a1 = some r) : Vx.Fn Try.prog 3 [(.agg (e_api_Node a0)), (L 1 (eI .i64) a1)] [] (.v (.bool r)) [] := by
  unfold watchbilllaw06_PathPlaces at H
  refine Vx.Fn.of_okR Try.func3 rfl (Nat.le_of_ble_eq_true rfl) ?_
  refine Ok.seq ?_
  refine Ok.region (σ' := ⟨[(1, (L 1 (eI .i64) a1)), (2, (.bref 2 0))], [(2, (.box .ex (c_api_Node a0)))]⟩) ?_ ?_
  · refine OpsOk.cut1 0 (.agg [(.v (.int .i64 a0.Kind)), (S a0.Name.Space), (S a0.Name.Local), (L 3 e_api_Attr a0.Attrs), (L 6 e_api_Node a0.Kids), (S a0.Text)]) (DLe.of_eq (congrArg D.agg (e_api_Node_c _).symm)) ?_
    refine OpsOk.cons rfl (OpOk.box 2 (cells := [(.v (.int .i64 a0.Kind)), (S a0.Name.Space), (S a0.Name.Local), (L 3 e_api_Attr a0.Attrs), (L 6 e_api_Node a0.Kids), (S a0.Text)]) rfl rfl rfl rfl) ?_
    refine .cv (VOk.asg (d := (.v (.bool false))) rfl rfl) rfl rfl ?_
    exact .done (.rf rfl rfl)
  refine Ok.seq ?_
  refine Ok.seq ?_
  obtain ⟨t1, h2, H⟩ := bindE H
  refine Ok.region (σ' := ⟨[(1, (L 1 (eI .i64) a1)), (2, (.bref 2 0)), (14, (.v (.bool (!t1))))], [(2, (.box .ex (c_api_Node a0)))]⟩) ?_ ?_
  · refine .cg (GOk.call rfl rfl cl6 rfl (watchbilllaw06_awake.ok h2) rfl) rfl rfl ?_
    refine .cv (VOk.not (b := t1) rfl rfl) rfl rfl ?_
    exact .done (.rf rfl rfl)
  refine Ok.test (b := (!t1)) rfl (fun hb68 => ?_) (fun hb68 => ?_)
  · replace H := ifT H hb68
    refine Ok.seq ?_
    refine Ok.region (σ' := ⟨[(4, (.v (.bool false)))], []⟩) ?_ ?_
    · refine .cv (VOk.asg (d := (.v (.bool false))) rfl rfl) rfl rfl ?_
      exact .done (.rf rfl rfl)
    refine Ok.ret ?_
    obtain rfl := Option.some.inj H
    exact ⟨.inl rfl, ⟨_, (.cons (.tmp rfl) .nil), rfl⟩, trivial⟩
  · replace H := ifF H hb68
    refine Ok.skip ?_
    refine Ok.seq ?_
    refine Ok.seq ?_
    obtain ⟨t3, h4, H⟩ := bindE H
    refine Ok.region (σ' := ⟨[(1, (L 1 (eI .i64) a1)), (2, (.bref 2 0)), (22, (.v (.bool ((!t3) || (decide ((a1.length : Int) > 1000))))))], [(2, (.box .ex (c_api_Node a0)))]⟩) ?_ ?_
    · refine .cv (VOk.to (d' := (.agg (e_api_Node a0))) (.loadBAgg rfl Try.underlying27 rfl sz27 rfl rfl rfl) (congrArg D.agg (e_api_Node_c a0).symm)) rfl rfl ?_
      refine .cg (GOk.call rfl rfl cl7 rfl (watchbilllaw04_Few.ok h4) rfl) rfl rfl ?_
      refine .cv (VOk.not (b := t3) rfl rfl) rfl rfl ?_
      refine .cv (VOk.mv (d := (.v (.bool (!t3)))) rfl rfl) rfl rfl ?_
      refine OpsOk.consI rfl rfl rfl (.one rfl) rfl (fun hw5 => (VOk.g (VOk.mv (d := (L 1 (eI .i64) a1)) rfl rfl))) ?_
      refine OpsOk.consI rfl rfl rfl (.one rfl) rfl (fun hw5 => (GOk.fr (fr' := [(19, (L 1 (eI .i64) a1))]) ⟨DLe.of_eq (cT hw5).symm, trivial⟩ (VOk.g (VOk.lenL (e := (eI .i64)) (xs := a1) rfl Try.underlying28 rfl)))) ?_
      refine OpsOk.consI rfl rfl rfl (.one rfl) rfl (fun hw5 => (GOk.fr (fr' := [(20, (.v (.int .i64 (a1.length : Int))))]) ⟨DLe.of_eq (cT hw5).symm, trivial⟩ (VOk.g (VOk.arith (op := .gtr) (k := .i64) (a := (a1.length : Int)) (b := 1000) rfl rfl rfl rfl)))) ?_
      refine .cv (VOk.to (VOk.pickI (b := (!t3)) (p := true) (q := (decide ((a1.length : Int) > 1000))) rfl rfl (fun hp6 => rfl) (fun hp6 => (cT (f_beq hp6)))) (pickOr (!t3) (decide ((a1.length : Int) > 1000)))) rfl rfl ?_
      exact .done (.rf rfl rfl)
    refine Ok.test (b := ((!t3) || (decide ((a1.length : Int) > 1000)))) rfl (fun hb67 => ?_) (fun hb67 => ?_)
    · replace H := ifT H hb67
      refine Ok.seq ?_
      refine Ok.region (σ' := ⟨[(4, (.v (.bool true)))], []⟩) ?_ ?_
      · refine .cv (VOk.asg (d := (.v (.bool true))) rfl rfl) rfl rfl ?_
        exact .done (.rf rfl rfl)
      refine Ok.ret ?_
      obtain rfl := Option.some.inj H
      exact ⟨.inl rfl, ⟨_, (.cons (.tmp rfl) .nil), rfl⟩, trivial⟩
    · replace H := ifF H hb67
      refine Ok.skip ?_
      refine Ok.seq ?_
      obtain ⟨c7, H⟩ := assertE H
      obtain ⟨t8, h9, H⟩ := bindE H
      refine Ok.le (σ' := ⟨[(1, (L 1 (eI .i64) a1)), (2, (.bref 2 0))], [(2, (.box .ex (c_api_Node a0)))]⟩) (.rf rfl rfl) ?_
      refine Ok.drawE2 (σ' := ⟨[(1, (L 1 (eI .i64) a1)), (2, (.bref 2 0)), (5, (.bref 5 0)), (6, (.v (.bool t8.2)))], [(2, (.box .ex (c_api_Node a0))), (5, (.box .ex (c_api_Node t8.1)))]⟩) [⟨true, [(2, (.bref 2 0))], [(2, (.box .ex (c_api_Node a0)))], (.agg (e_api_Node a0)), [], false, []⟩, ⟨true, [], [], (.clist 1 (List.map (eI .i64) ([] : List Int))), [], false, []⟩, ⟨true, [(1, (L 1 (eI .i64) a1))], [], (L 1 (eI .i64) a1), [], false, []⟩, ⟨true, [(25, (.clist 1 (List.map (eI .i64) ([] : List Int)))), (26, (L 1 (eI .i64) a1))], [], (L 1 (eI .i64) (([] : List Int) ++ a1)), [], false, []⟩, ⟨true, [(24, (.agg (e_api_Node a0))), (27, (L 1 (eI .i64) (([] : List Int) ++ a1)))], [], (.tup [(.agg (e_api_Node t8.1)), (.v (.bool t8.2))]), [], false, []⟩, ⟨true, [(28, (.tup [(.agg (e_api_Node t8.1)), (.v (.bool t8.2))]))], [], (.tup [(.agg (e_api_Node t8.1)), (.v (.bool t8.2))]), [], false, []⟩, ⟨true, [(23, (.tup [(.agg (e_api_Node t8.1)), (.v (.bool t8.2))]))], [], (.agg (e_api_Node t8.1)), [], false, []⟩, ⟨true, [(23, (.tup [(.agg (e_api_Node t8.1)), (.v (.bool t8.2))]))], [], (.v (.bool t8.2)), [], false, []⟩, ⟨true, [], [], (.bref 5 0), [(5, (.box .ex [(.v (.int .i64 0)), (S ([] : Str)), (S ([] : Str)), (L 3 e_api_Attr ([] : List T_api_Attr)), (L 6 e_api_Node ([] : List T_api_Node)), (S ([] : Str))]))], true, []⟩, ⟨true, [(5, (.bref 5 0)), (29, (.agg [(.v (.int .i64 t8.1.Kind)), (S t8.1.Name.Space), (S t8.1.Name.Local), (L 3 e_api_Attr t8.1.Attrs), (L 6 e_api_Node t8.1.Kids), (S t8.1.Text)]))], [(5, (.box .ex [(.v (.int .i64 0)), (S ([] : Str)), (S ([] : Str)), (L 3 e_api_Attr ([] : List T_api_Attr)), (L 6 e_api_Node ([] : List T_api_Node)), (S ([] : Str))]))], .junk, [(5, (.box .ex (c_api_Node t8.1)))], false, []⟩, ⟨true, [(30, (.v (.bool t8.2)))], [], (.v (.bool t8.2)), [], false, []⟩] [[], [], [], [1, 2], [0, 3], [4], [5], [5], [], [6, 8], [7]] mixed (by kernel_rfl) ?_ ?_
      · refine TxtE2.cons ⟨.same _, trivial⟩ ⟨rfl, trivial⟩ (It2.val rfl rfl (fun T hT => (VOk.g (VOk.to (d' := (.agg (e_api_Node a0))) (.loadBAgg rfl Try.underlying27 rfl sz27 rfl hT.1 rfl) (congrArg D.agg (e_api_Node_c a0).symm))))) ?_
        refine TxtE2.cons trivial trivial (It2.val rfl rfl (fun T hT => (GOk.to (d' := (.clist 1 (List.map (eI .i64) ([] : List Int)))) (GOk.litC rfl Try.underlying28 sz3 zs3 rfl rfl rfl rfl) rfl))) ?_
        refine TxtE2.cons ⟨.same _, trivial⟩ trivial (It2.val rfl rfl (fun T hT => (VOk.g (VOk.mv (d := (L 1 (eI .i64) a1)) rfl rfl)))) ?_
        refine TxtE2.cons ⟨.same _, .same _, trivial⟩ trivial (It2.val rfl rfl (fun T hT => (GOk.appendC (e := (eI .i64)) (xs := ([] : List Int)) (ys := a1) rfl Try.underlying28 elt3 (.same _) rfl c7))) ?_
        refine TxtE2.cons ⟨.same _, .same _, trivial⟩ trivial (It2.val rfl rfl (fun T hT => (GOk.call rfl rfl cl8 rfl (path_At.ok h9) rfl))) ?_
        refine TxtE2.cons ⟨.same _, trivial⟩ trivial (It2.val rfl rfl (fun T hT => (VOk.g (VOk.mv (d := (.tup [(.agg (e_api_Node t8.1)), (.v (.bool t8.2))])) rfl rfl)))) ?_
        refine TxtE2.cons ⟨.same _, trivial⟩ trivial (It2.val rfl rfl (fun T hT => (VOk.g (VOk.extract (d := (.agg (e_api_Node t8.1))) rfl rfl rfl)))) ?_
        refine TxtE2.cons ⟨.same _, trivial⟩ trivial (It2.val rfl rfl (fun T hT => (VOk.g (VOk.extract (d := (.v (.bool t8.2))) rfl rfl rfl)))) ?_
        refine TxtE2.cons trivial trivial (It2.alloc 5 [none, none, none, some 3, some 6, none] rfl rfl zo27 rfl rfl) ?_
        refine TxtE2.cons ⟨.same _, DLe.of_eq (congrArg D.agg (e_api_Node_c _).symm), trivial⟩ ⟨rfl, trivial⟩ (It2.store rfl rfl sz27 rfl rfl rfl rfl rfl rfl rfl rfl) ?_
        refine TxtE2.cons ⟨.same _, trivial⟩ trivial (It2.val rfl rfl (fun T hT => (VOk.g (VOk.asg (d := (.v (.bool t8.2))) rfl rfl)))) ?_
        exact .done (.rf rfl rfl)
      refine Ok.seq ?_
      obtain ⟨t10, h11, H⟩ := bindE H
      refine Ok.region (σ' := ⟨[(1, (L 1 (eI .i64) a1)), (2, (.bref 2 0)), (5, (.bref 5 0)), (6, (.v (.bool t8.2))), (7, (.bref 7 0)), (8, (.v (.bool t10.2)))], [(2, (.box .ex (c_api_Node a0))), (5, (.box .ex (c_api_Node t8.1))), (7, (.box .ex (c_api_Node t10.1)))]⟩) ?_ ?_
      · refine .cv (VOk.to (d' := (.agg (e_api_Node a0))) (.loadBAgg rfl Try.underlying27 rfl sz27 rfl rfl rfl) (congrArg D.agg (e_api_Node_c a0).symm)) rfl rfl ?_
        refine .cv (VOk.mv (d := (L 1 (eI .i64) a1)) rfl rfl) rfl rfl ?_
        refine .cg (GOk.call rfl rfl cl9 rfl (watchbillref06_At.ok h11) rfl) rfl rfl ?_
        refine .cv (VOk.mv (d := (.tup [(.agg (e_api_Node t10.1)), (.v (.bool t10.2))])) rfl rfl) rfl rfl ?_
        refine .cv (VOk.extract (d := (.agg (e_api_Node t10.1))) rfl rfl rfl) rfl rfl ?_
        refine .cv (VOk.extract (d := (.v (.bool t10.2))) rfl rfl rfl) rfl rfl ?_
        refine OpsOk.cons rfl (OpOk.alloc 7 [none, none, none, some 3, some 6, none] rfl zo27 rfl rfl) ?_
        refine OpsOk.cut1 35 (.agg [(.v (.int .i64 t10.1.Kind)), (S t10.1.Name.Space), (S t10.1.Name.Local), (L 3 e_api_Attr t10.1.Attrs), (L 6 e_api_Node t10.1.Kids), (S t10.1.Text)]) (DLe.of_eq (congrArg D.agg (e_api_Node_c _).symm)) ?_
        refine OpsOk.cons rfl (OpOk.to (σ2 := St.put ⟨_, (7, (.box .ex (c_api_Node t10.1))) :: _⟩ _ .junk) (.storeB rfl sz27 rfl rfl rfl rfl rfl rfl) rfl) ?_
        refine .cv (VOk.asg (d := (.v (.bool t10.2))) rfl rfl) rfl rfl ?_
        exact .done (.rf rfl rfl)
      refine Ok.seq ?_
      obtain ⟨t12, h13, H⟩ := bindE H
      obtain ⟨t14, h15, H⟩ := bindE H
      refine Ok.drawE (σ' := ⟨[(1, (L 1 (eI .i64) a1)), (2, (.bref 2 0)), (5, (.bref 5 0)), (6, (.v (.bool t8.2))), (7, (.bref 7 0)), (8, (.v (.bool t10.2))), (9, (L 1 (eL 1 (eI .i64)) t12)), (10, (L 1 (eL 1 (eI .i64)) t14))], [(2, (.box .ex (c_api_Node a0))), (5, (.box .ex (c_api_Node t8.1))), (7, (.box .ex (c_api_Node t10.1)))]⟩) [⟨true, [(2, (.bref 2 0))], (.agg (e_api_Node a0))⟩, ⟨true, [(37, (.agg (e_api_Node a0)))], (L 1 (eL 1 (eI .i64)) t12)⟩, ⟨true, [(2, (.bref 2 0))], (.agg (e_api_Node a0))⟩, ⟨true, [(39, (.agg (e_api_Node a0)))], (L 1 (eL 1 (eI .i64)) t14)⟩, ⟨true, [(38, (L 1 (eL 1 (eI .i64)) t12))], (L 1 (eL 1 (eI .i64)) t12)⟩, ⟨true, [(40, (L 1 (eL 1 (eI .i64)) t14))], (L 1 (eL 1 (eI .i64)) t14)⟩] [[], [0], [], [2], [1], [3]] mixed (by kernel_rfl) ?_ ?_
      · refine TxtE.cons rfl ⟨.same _, trivial⟩ rfl (VOk.g (VOk.to (d' := (.agg (e_api_Node a0))) (.loadBAgg rfl Try.underlying27 rfl sz27 rfl rfl rfl) (congrArg D.agg (e_api_Node_c a0).symm))) ?_
        refine TxtE.cons rfl ⟨.same _, trivial⟩ rfl (GOk.call rfl rfl cl10 rfl (path_Places.ok h13) rfl) ?_
        refine TxtE.cons rfl ⟨.same _, trivial⟩ rfl (VOk.g (VOk.to (d' := (.agg (e_api_Node a0))) (.loadBAgg rfl Try.underlying27 rfl sz27 rfl rfl rfl) (congrArg D.agg (e_api_Node_c a0).symm))) ?_
        refine TxtE.cons rfl ⟨.same _, trivial⟩ rfl (GOk.call rfl rfl cl11 rfl (watchbillref06_Places.ok h15) rfl) ?_
        refine TxtE.cons rfl ⟨.same _, trivial⟩ rfl (VOk.g (VOk.asg (d := (L 1 (eL 1 (eI .i64)) t12)) rfl rfl)) ?_
        refine TxtE.cons rfl ⟨.same _, trivial⟩ rfl (VOk.g (VOk.asg (d := (L 1 (eL 1 (eI .i64)) t14)) rfl rfl)) ?_
        exact .done (.rf rfl rfl)
      refine Ok.seq ?_
      refine Ok.seq ?_
      obtain ⟨t16, h17, H⟩ := bindE H
      refine Ok.region (σ' := ⟨[(1, (L 1 (eI .i64) a1)), (2, (.bref 2 0)), (5, (.bref 5 0)), (6, (.v (.bool t8.2))), (9, (L 1 (eL 1 (eI .i64)) t12)), (10, (L 1 (eL 1 (eI .i64)) t14)), (53, (.v (.bool ((!t16) || ((t12.length : Int) != (t14.length : Int))))))], [(2, (.box .ex (c_api_Node a0))), (5, (.box .ex (c_api_Node t8.1)))]⟩) ?_ ?_
      · refine .cv (VOk.to (d' := (.agg (e_api_Node t8.1))) (.loadBAgg rfl Try.underlying27 rfl sz27 rfl rfl rfl) (congrArg D.agg (e_api_Node_c t8.1).symm)) rfl rfl ?_
        refine .cv (VOk.to (d' := (.agg (e_api_Node t10.1))) (.loadBAgg rfl Try.underlying27 rfl sz27 rfl rfl rfl) (congrArg D.agg (e_api_Node_c t10.1).symm)) rfl rfl ?_
        refine .cv (VOk.mv (d := (.v (.bool t8.2))) rfl rfl) rfl rfl ?_
        refine .cv (VOk.mv (d := (.v (.bool t10.2))) rfl rfl) rfl rfl ?_
        refine .cg (GOk.call rfl rfl cl12 rfl (watchbilllaw06_same.ok h17) rfl) rfl rfl ?_
        refine .cv (VOk.not (b := t16) rfl rfl) rfl rfl ?_
        refine .cv (VOk.mv (d := (.v (.bool (!t16)))) rfl rfl) rfl rfl ?_
        refine OpsOk.consI rfl rfl rfl (.one rfl) rfl (fun hw18 => (VOk.g (VOk.mv (d := (L 1 (eL 1 (eI .i64)) t12)) rfl rfl))) ?_
        refine OpsOk.consI rfl rfl rfl (.one rfl) rfl (fun hw18 => (GOk.fr (fr' := [(48, (L 1 (eL 1 (eI .i64)) t12))]) ⟨DLe.of_eq (cT hw18).symm, trivial⟩ (VOk.g (VOk.lenL (e := (eL 1 (eI .i64))) (xs := t12) rfl Try.underlying34 rfl)))) ?_
        refine OpsOk.consI rfl rfl rfl (.one rfl) rfl (fun hw18 => (VOk.g (VOk.mv (d := (L 1 (eL 1 (eI .i64)) t14)) rfl rfl))) ?_
        refine OpsOk.consI rfl rfl rfl (.one rfl) rfl (fun hw18 => (GOk.fr (fr' := [(50, (L 1 (eL 1 (eI .i64)) t14))]) ⟨DLe.of_eq (cT hw18).symm, trivial⟩ (VOk.g (VOk.lenL (e := (eL 1 (eI .i64))) (xs := t14) rfl Try.underlying34 rfl)))) ?_
        refine OpsOk.consI rfl rfl rfl (.one rfl) rfl (fun hw18 => (GOk.fr (fr' := [(49, (.v (.int .i64 (t12.length : Int)))), (51, (.v (.int .i64 (t14.length : Int))))]) ⟨DLe.of_eq (cT hw18).symm, DLe.of_eq (cT hw18).symm, trivial⟩ (VOk.g (VOk.arith (op := .neq) (k := .i64) (a := (t12.length : Int)) (b := (t14.length : Int)) rfl rfl rfl rfl)))) ?_
        refine .cv (VOk.to (VOk.pickI (b := (!t16)) (p := true) (q := ((t12.length : Int) != (t14.length : Int))) rfl rfl (fun hp19 => rfl) (fun hp19 => (cT (f_beq hp19)))) (pickOr (!t16) ((t12.length : Int) != (t14.length : Int)))) rfl rfl ?_
        exact .done (.rf rfl rfl)
      refine Ok.test (b := ((!t16) || ((t12.length : Int) != (t14.length : Int)))) rfl (fun hb66 => ?_) (fun hb66 => ?_)
      · replace H := ifT H hb66
        refine Ok.seq ?_
        refine Ok.region (σ' := ⟨[(4, (.v (.bool false)))], []⟩) ?_ ?_
        · refine .cv (VOk.asg (d := (.v (.bool false))) rfl rfl) rfl rfl ?_
          exact .done (.rf rfl rfl)
        refine Ok.ret ?_
        obtain rfl := Option.some.inj H
        exact ⟨.inl rfl, ⟨_, (.cons (.tmp rfl) .nil), rfl⟩, trivial⟩
      · replace H := ifF H hb66
        refine Ok.skip ?_
        refine Ok.seq ?_
        refine Ok.region (σ' := ⟨[(1, (L 1 (eI .i64) a1)), (2, (.bref 2 0)), (5, (.bref 5 0)), (6, (.v (.bool t8.2))), (9, (L 1 (eL 1 (eI .i64)) t12)), (10, (L 1 (eL 1 (eI .i64)) t14)), (11, (.v (.bool false)))], [(2, (.box .ex (c_api_Node a0))), (5, (.box .ex (c_api_Node t8.1)))]⟩) ?_ ?_
        · refine .cv (VOk.asg (d := (.v (.bool false))) rfl rfl) rfl rfl ?_
          exact .done (.rf rfl rfl)
        refine Ok.seq ?_
        refine Ok.seq ?_
        refine Ok.region (σ' := ⟨[(1, (L 1 (eI .i64) a1)), (2, (.bref 2 0)), (5, (.bref 5 0)), (6, (.v (.bool t8.2))), (9, (L 1 (eL 1 (eI .i64)) t12)), (10, (L 1 (eL 1 (eI .i64)) t14)), (11, (.v (.bool false))), (12, (.v (.int .i64 0)))], [(2, (.box .ex (c_api_Node a0))), (5, (.box .ex (c_api_Node t8.1)))]⟩) ?_ ?_
        · refine .cv (VOk.asg (d := (.v (.int .i64 0))) rfl rfl) rfl rfl ?_
          exact .done (.rf rfl rfl)
        refine Ok.block ?_
        refine Ok.le (σ' := ⟨[(1, (L 1 (eI .i64) a1)), (2, (.bref 2 0)), (5, (.bref 5 0)), (6, (.v (.bool t8.2))), (9, (L 1 (eL 1 (eI .i64)) t12)), (10, (L 1 (eL 1 (eI .i64)) t14)), (11, (.v (.bool false))), (12, (.v (.int .i64 0)))], [(2, (.box .ex (c_api_Node a0))), (5, (.box .ex (c_api_Node t8.1)))]⟩) (.rf rfl rfl) ?_
        refine Ok.loop (fun m48 σ => ∃ (y2_0_22 : Int) (y2_1_23 : Str) (y2_2_24 : Str) (y2_3_25 : List T_api_Attr) (y2_4_26 : List T_api_Node) (y2_5_27 : Str) (y5_0_28 : Int) (y5_1_29 : Str) (y5_2_30 : Str) (y5_3_31 : List T_api_Attr) (y5_4_32 : List T_api_Node) (y5_5_33 : Str) (x11_20 : Bool) (x12_21 : Int), σ = ⟨[(1, (L 1 (eI .i64) a1)), (2, (.bref 2 0)), (5, (.bref 5 0)), (6, (.v (.bool t8.2))), (9, (L 1 (eL 1 (eI .i64)) t12)), (10, (L 1 (eL 1 (eI .i64)) t14)), (11, (.v (.bool x11_20))), (12, (.v (.int .i64 x12_21)))], [(2, (.box .ex [(.v (.int .i64 y2_0_22)), (S y2_1_23), (S y2_2_24), (L 3 e_api_Attr y2_3_25), (L 6 e_api_Node y2_4_26), (S y2_5_27)])), (5, (.box .ex [(.v (.int .i64 y5_0_28)), (S y5_1_29), (S y5_2_30), (L 3 e_api_Attr y5_3_31), (L 6 e_api_Node y5_4_32), (S y5_5_33)]))]⟩ ∧ watchbilllaw06_PathPlaces.l0 k a1 t8 t12 t14 m48 y2_0_22 y2_1_23 y2_2_24 y2_3_25 y2_4_26 y2_5_27 y5_0_28 y5_1_29 y5_2_30 y5_3_31 y5_4_32 y5_5_33 x11_20 x12_21 = some r) k ⟨a0.Kind, a0.Name.Space, a0.Name.Local, a0.Attrs, a0.Kids, a0.Text, t8.1.Kind, t8.1.Name.Space, t8.1.Name.Local, t8.1.Attrs, t8.1.Kids, t8.1.Text, false, 0, rfl, H⟩ ?_
        rintro m48 σ ⟨y2_0_22, y2_1_23, y2_2_24, y2_3_25, y2_4_26, y2_5_27, y5_0_28, y5_1_29, y5_2_30, y5_3_31, y5_4_32, y5_5_33, x11_20, x12_21, rfl, H⟩
        cases m48 with
        | zero => exact absurd H (by simp [watchbilllaw06_PathPlaces.l0])
        | succ m48 =>
          unfold watchbilllaw06_PathPlaces.l0 at H
          refine Ok.seq ?_
          refine Ok.seq ?_
          refine Ok.region (σ' := ⟨[(1, (L 1 (eI .i64) a1)), (2, (.bref 2 0)), (5, (.bref 5 0)), (6, (.v (.bool t8.2))), (9, (L 1 (eL 1 (eI .i64)) t12)), (10, (L 1 (eL 1 (eI .i64)) t14)), (11, (.v (.bool x11_20))), (12, (.v (.int .i64 x12_21))), (57, (.v (.bool (decide (x12_21 < (t12.length : Int))))))], [(2, (.box .ex [(.v (.int .i64 y2_0_22)), (S y2_1_23), (S y2_2_24), (L 3 e_api_Attr y2_3_25), (L 6 e_api_Node y2_4_26), (S y2_5_27)])), (5, (.box .ex [(.v (.int .i64 y5_0_28)), (S y5_1_29), (S y5_2_30), (L 3 e_api_Attr y5_3_31), (L 6 e_api_Node y5_4_32), (S y5_5_33)]))]⟩) ?_ ?_
          · refine .cv (VOk.mv (d := (.v (.int .i64 x12_21))) rfl rfl) rfl rfl ?_
            refine .cv (VOk.mv (d := (L 1 (eL 1 (eI .i64)) t12)) rfl rfl) rfl rfl ?_
            refine .cv (VOk.lenL (e := (eL 1 (eI .i64))) (xs := t12) rfl Try.underlying34 rfl) rfl rfl ?_
            refine .cv (VOk.arith (op := .lss) (k := .i64) (a := x12_21) (b := (t12.length : Int)) rfl rfl rfl rfl) rfl rfl ?_
            exact .done (.rf rfl rfl)
          refine Ok.test (b := (decide (x12_21 < (t12.length : Int)))) rfl (fun hb65 => ?_) (fun hb65 => ?_)
          · replace H := ifT H hb65
            refine Ok.skip ?_
            refine Ok.seq ?_
            refine Ok.block ?_
            refine Ok.seq ?_
            refine Ok.seq ?_
            obtain ⟨c49, H⟩ := assertE H
            obtain ⟨c50, H⟩ := assertE H
            obtain ⟨t51, h52, H⟩ := bindE H
            refine Ok.drawE (σ' := ⟨[(1, (L 1 (eI .i64) a1)), (2, (.bref 2 0)), (5, (.bref 5 0)), (6, (.v (.bool t8.2))), (9, (L 1 (eL 1 (eI .i64)) t12)), (10, (L 1 (eL 1 (eI .i64)) t14)), (11, (.v (.bool x11_20))), (12, (.v (.int .i64 x12_21))), (69, (.v (.bool (!t51))))], [(2, (.box .ex [(.v (.int .i64 y2_0_22)), (S y2_1_23), (S y2_2_24), (L 3 e_api_Attr y2_3_25), (L 6 e_api_Node y2_4_26), (S y2_5_27)])), (5, (.box .ex [(.v (.int .i64 y5_0_28)), (S y5_1_29), (S y5_2_30), (L 3 e_api_Attr y5_3_31), (L 6 e_api_Node y5_4_32), (S y5_5_33)]))]⟩) [⟨true, [(9, (L 1 (eL 1 (eI .i64)) t12))], (L 1 (eL 1 (eI .i64)) t12)⟩, ⟨true, [(12, (.v (.int .i64 x12_21)))], (.v (.int .i64 x12_21))⟩, ⟨true, [(60, (L 1 (eL 1 (eI .i64)) t12)), (61, (.v (.int .i64 x12_21)))], (.fp ((eL 1 (eI .i64)) (rd t12 x12_21)) 0)⟩, ⟨true, [(62, (.fp ((eL 1 (eI .i64)) (rd t12 x12_21)) 0))], (L 1 (eI .i64) (rd t12 x12_21))⟩, ⟨true, [(10, (L 1 (eL 1 (eI .i64)) t14))], (L 1 (eL 1 (eI .i64)) t14)⟩, ⟨true, [(12, (.v (.int .i64 x12_21)))], (.v (.int .i64 x12_21))⟩, ⟨true, [(64, (L 1 (eL 1 (eI .i64)) t14)), (65, (.v (.int .i64 x12_21)))], (.fp ((eL 1 (eI .i64)) (rd t14 x12_21)) 0)⟩, ⟨true, [(66, (.fp ((eL 1 (eI .i64)) (rd t14 x12_21)) 0))], (L 1 (eI .i64) (rd t14 x12_21))⟩, ⟨true, [(63, (L 1 (eI .i64) (rd t12 x12_21))), (67, (L 1 (eI .i64) (rd t14 x12_21)))], (.v (.bool t51))⟩, ⟨true, [(68, (.v (.bool t51)))], (.v (.bool (!t51)))⟩] [[], [], [0, 1], [2], [], [], [4, 5], [6], [3, 7], [8]] mixed (by kernel_rfl) ?_ ?_
            · refine TxtE.cons rfl ⟨.same _, trivial⟩ rfl (VOk.g (VOk.mv (d := (L 1 (eL 1 (eI .i64)) t12)) rfl rfl)) ?_
              refine TxtE.cons rfl ⟨.same _, trivial⟩ rfl (VOk.g (VOk.mv (d := (.v (.int .i64 x12_21))) rfl rfl)) ?_
              refine TxtE.cons rfl ⟨.same _, .same _, trivial⟩ rfl (VOk.g (VOk.indexL (sz := 1) (e := (eL 1 (eI .i64))) (xs := t12) (i := x12_21) rfl Try.underlying34 sz28 rfl rfl c49)) ?_
              refine TxtE.cons rfl ⟨.same _, trivial⟩ rfl (VOk.g (VOk.loadFp (d := (L 1 (eI .i64) (rd t12 x12_21))) rfl Try.underlying28 rfl rfl rfl)) ?_
              refine TxtE.cons rfl ⟨.same _, trivial⟩ rfl (VOk.g (VOk.mv (d := (L 1 (eL 1 (eI .i64)) t14)) rfl rfl)) ?_
              refine TxtE.cons rfl ⟨.same _, trivial⟩ rfl (VOk.g (VOk.mv (d := (.v (.int .i64 x12_21))) rfl rfl)) ?_
              refine TxtE.cons rfl ⟨.same _, .same _, trivial⟩ rfl (VOk.g (VOk.indexL (sz := 1) (e := (eL 1 (eI .i64))) (xs := t14) (i := x12_21) rfl Try.underlying34 sz28 rfl rfl c50)) ?_
              refine TxtE.cons rfl ⟨.same _, trivial⟩ rfl (VOk.g (VOk.loadFp (d := (L 1 (eI .i64) (rd t14 x12_21))) rfl Try.underlying28 rfl rfl rfl)) ?_
              refine TxtE.cons rfl ⟨.same _, .same _, trivial⟩ rfl (GOk.call rfl rfl cl13 rfl (watchbillref06_Same.ok h52) rfl) ?_
              refine TxtE.cons rfl ⟨.same _, trivial⟩ rfl (VOk.g (VOk.not (b := t51) rfl rfl)) ?_
              exact .done (.rf rfl rfl)
            refine Ok.test (b := (!t51)) rfl (fun hb58 => ?_) (fun hb58 => ?_)
            · replace H := ifT H hb58
              refine Ok.seq ?_
              refine Ok.region (σ' := ⟨[(4, (.v (.bool false)))], []⟩) ?_ ?_
              · refine .cv (VOk.asg (d := (.v (.bool false))) rfl rfl) rfl rfl ?_
                exact .done (.rf rfl rfl)
              refine Ok.ret ?_
              obtain rfl := Option.some.inj H
              exact ⟨.inl rfl, ⟨_, (.cons (.tmp rfl) .nil), rfl⟩, trivial⟩
            · replace H := ifF H hb58
              refine Ok.skip ?_
              obtain ⟨c54, H⟩ := assertE H
              obtain ⟨t55, h56, H⟩ := bindE H
              refine Ok.region (σ' := ⟨[(1, (L 1 (eI .i64) a1)), (2, (.bref 2 0)), (5, (.bref 5 0)), (6, (.v (.bool t8.2))), (9, (L 1 (eL 1 (eI .i64)) t12)), (10, (L 1 (eL 1 (eI .i64)) t14)), (11, (.v (.bool (x11_20 || t55)))), (12, (.v (.int .i64 x12_21)))], [(2, (.box .ex [(.v (.int .i64 y2_0_22)), (S y2_1_23), (S y2_2_24), (L 3 e_api_Attr y2_3_25), (L 6 e_api_Node y2_4_26), (S y2_5_27)])), (5, (.box .ex [(.v (.int .i64 y5_0_28)), (S y5_1_29), (S y5_2_30), (L 3 e_api_Attr y5_3_31), (L 6 e_api_Node y5_4_32), (S y5_5_33)]))]⟩) ?_ ?_
              · refine .cv (VOk.mv (d := (.v (.bool x11_20))) rfl rfl) rfl rfl ?_
                refine .cv (VOk.mv (d := (.v (.bool x11_20))) rfl rfl) rfl rfl ?_
                refine OpsOk.consI rfl rfl rfl (.one rfl) rfl (fun hw53 => (VOk.g (VOk.mv (d := (L 1 (eL 1 (eI .i64)) t12)) rfl rfl))) ?_
                refine OpsOk.consI rfl rfl rfl (.one rfl) rfl (fun hw53 => (VOk.g (VOk.mv (d := (.v (.int .i64 x12_21))) rfl rfl))) ?_
                refine OpsOk.consI rfl rfl rfl (.one rfl) rfl (fun hw53 => (GOk.fr (fr' := [(72, (L 1 (eL 1 (eI .i64)) t12)), (73, (.v (.int .i64 x12_21)))]) ⟨DLe.of_eq (cT hw53).symm, DLe.of_eq (cT hw53).symm, trivial⟩ (VOk.g (VOk.indexL (sz := 1) (e := (eL 1 (eI .i64))) (xs := t12) (i := x12_21) rfl Try.underlying34 sz28 rfl rfl (c54 hw53))))) ?_
                refine OpsOk.consI rfl rfl rfl (.one rfl) rfl (fun hw53 => (GOk.fr (fr' := [(74, (.fp ((eL 1 (eI .i64)) (rd t12 x12_21)) 0))]) ⟨DLe.of_eq (cT hw53).symm, trivial⟩ (VOk.g (VOk.loadFp (d := (L 1 (eI .i64) (rd t12 x12_21))) rfl Try.underlying28 rfl rfl rfl)))) ?_
                refine OpsOk.consI rfl rfl rfl (.one rfl) rfl (fun hw53 => (VOk.g (VOk.mv (d := (L 1 (eI .i64) a1)) rfl rfl))) ?_
                refine OpsOk.consI rfl rfl rfl (.one rfl) rfl (fun hw53 => (GOk.fr (fr' := [(75, (L 1 (eI .i64) (rd t12 x12_21))), (76, (L 1 (eI .i64) a1))]) ⟨DLe.of_eq (cT hw53).symm, DLe.of_eq (cT hw53).symm, trivial⟩ (GOk.call rfl rfl cl13 rfl (watchbillref06_Same.ok (ifT h56 hw53)) rfl))) ?_
                refine .cv (VOk.to (VOk.pickI (b := x11_20) (p := true) (q := t55) rfl rfl (fun hp57 => rfl) (fun hp57 => (cT (f_beq hp57)))) (pickOr x11_20 t55)) rfl rfl ?_
                refine .cv (VOk.asg (d := (.v (.bool (x11_20 || t55)))) rfl rfl) rfl rfl ?_
                exact .done (.rf rfl rfl)
              refine Ok.region (σ' := ⟨[(1, (L 1 (eI .i64) a1)), (2, (.bref 2 0)), (5, (.bref 5 0)), (6, (.v (.bool t8.2))), (9, (L 1 (eL 1 (eI .i64)) t12)), (10, (L 1 (eL 1 (eI .i64)) t14)), (11, (.v (.bool (x11_20 || t55)))), (12, (.v (.int .i64 (IntKind.i64.wrap (x12_21 + 1)))))], [(2, (.box .ex [(.v (.int .i64 y2_0_22)), (S y2_1_23), (S y2_2_24), (L 3 e_api_Attr y2_3_25), (L 6 e_api_Node y2_4_26), (S y2_5_27)])), (5, (.box .ex [(.v (.int .i64 y5_0_28)), (S y5_1_29), (S y5_2_30), (L 3 e_api_Attr y5_3_31), (L 6 e_api_Node y5_4_32), (S y5_5_33)]))]⟩) ?_ ?_
              · refine .cv (VOk.mv (d := (.v (.int .i64 x12_21))) rfl rfl) rfl rfl ?_
                refine .cv (VOk.arith (op := .add) (k := .i64) (a := x12_21) (b := 1) rfl rfl rfl rfl) rfl rfl ?_
                refine .cv (VOk.asg (d := (.v (.int .i64 (IntKind.i64.wrap (x12_21 + 1))))) rfl rfl) rfl rfl ?_
                exact .done (.rf rfl rfl)
              exact ⟨m48, Nat.lt_succ_self m48, y2_0_22, y2_1_23, y2_2_24, y2_3_25, y2_4_26, y2_5_27, y5_0_28, y5_1_29, y5_2_30, y5_3_31, y5_4_32, y5_5_33, (x11_20 || t55), (IntKind.i64.wrap (x12_21 + 1)), rfl, H⟩
          · replace H := ifF H hb65
            refine Ok.exit ?_
            refine Ok.seq ?_
            obtain ⟨t62, h63, H⟩ := bindE H
            refine Ok.region (σ' := ⟨[(4, (.v (.bool (x11_20 == ((t8.2 && (y5_0_28 == 1)) && t62)))))], []⟩) ?_ ?_
            · refine .cv (VOk.mv (d := (.v (.bool x11_20))) rfl rfl) rfl rfl ?_
              refine .cv (VOk.mv (d := (.v (.bool t8.2))) rfl rfl) rfl rfl ?_
              refine .cv (VOk.mv (d := (.v (.bool t8.2))) rfl rfl) rfl rfl ?_
              refine OpsOk.consI rfl rfl rfl (.one rfl) rfl (fun hw59 => (VOk.g (VOk.to (VOk.fieldB rfl Try.underlying27 rfl sz3 rfl rfl) rfl))) ?_
              refine OpsOk.consI rfl rfl rfl (.one rfl) rfl (fun hw59 => (GOk.fr (fr' := [(82, (.bref 5 0))]) ⟨DLe.of_eq (cT hw59).symm, trivial⟩ (VOk.g (VOk.loadB (d := (.v (.int .i64 y5_0_28))) rfl Try.underlying3 rfl rfl rfl rfl)))) ?_
              refine OpsOk.consI rfl rfl rfl (.one rfl) rfl (fun hw59 => (GOk.fr (fr' := [(83, (.v (.int .i64 y5_0_28)))]) ⟨DLe.of_eq (cT hw59).symm, trivial⟩ (VOk.g (VOk.arith (op := .eql) (k := .i64) (a := y5_0_28) (b := 1) rfl rfl rfl rfl)))) ?_
              refine .cv (VOk.to (VOk.pickI (b := t8.2) (p := (y5_0_28 == 1)) (q := false) rfl rfl (fun hp60 => (cT (t_beq hp60))) (fun hp60 => rfl)) (pickAnd t8.2 (y5_0_28 == 1))) rfl rfl ?_
              refine .cv (VOk.mv (d := (.v (.bool (t8.2 && (y5_0_28 == 1))))) rfl rfl) rfl rfl ?_
              refine OpsOk.consI rfl rfl rfl (.one rfl) rfl (fun hw61 => (VOk.g (VOk.to (d' := (.agg (e_api_Node (T_api_Node.mk y2_0_22 (T_api_Name.mk y2_1_23 y2_2_24) y2_3_25 y2_4_26 y2_5_27)))) (.loadBAgg rfl Try.underlying27 rfl sz27 rfl rfl rfl) (congrArg D.agg (e_api_Node_c (T_api_Node.mk y2_0_22 (T_api_Name.mk y2_1_23 y2_2_24) y2_3_25 y2_4_26 y2_5_27)).symm)))) ?_
              refine OpsOk.consI rfl rfl rfl (.one rfl) rfl (fun hw61 => (VOk.g (VOk.mv (d := (L 1 (eI .i64) a1)) rfl rfl))) ?_
              refine OpsOk.consI rfl rfl rfl (.one rfl) rfl (fun hw61 => (GOk.fr (fr' := [(87, (.agg (e_api_Node (T_api_Node.mk y2_0_22 (T_api_Name.mk y2_1_23 y2_2_24) y2_3_25 y2_4_26 y2_5_27)))), (88, (L 1 (eI .i64) a1))]) ⟨DLe.of_eq (cT hw61).symm, DLe.of_eq (cT hw61).symm, trivial⟩ (GOk.call rfl rfl cl14 rfl (watchbilllaw06_elements.ok (ifT h63 hw61)) rfl))) ?_
              refine .cv (VOk.to (VOk.pickI (b := (t8.2 && (y5_0_28 == 1))) (p := t62) (q := false) rfl rfl (fun hp64 => (cT (t_beq hp64))) (fun hp64 => rfl)) (pickAnd (t8.2 && (y5_0_28 == 1)) t62)) rfl rfl ?_
              refine .cv (VOk.eqB (op := .eql) (p := x11_20) (q := ((t8.2 && (y5_0_28 == 1)) && t62)) rfl (.inl rfl) Try.underlying4 rfl rfl) rfl rfl ?_
              refine .cv (VOk.asg (d := (.v (.bool (x11_20 == ((t8.2 && (y5_0_28 == 1)) && t62))))) rfl rfl) rfl rfl ?_
              exact .done (.rf rfl rfl)
            refine Ok.ret ?_
            obtain rfl := Option.some.inj H
            exact ⟨.inl rfl, ⟨_, (.cons (.tmp rfl) .nil), rfl⟩, trivial⟩

end Go.Proofs.Ytjhbedgepfkdbaa.Sh
