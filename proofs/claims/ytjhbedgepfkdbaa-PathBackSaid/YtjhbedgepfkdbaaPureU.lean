/- Walked here: the laws, printed; they call path.Insert and the like, whose contracts stand ahead. -/
import Derived.Test.YtjhbedgepfkdbaaPureT
namespace Go.Proofs.Ytjhbedgepfkdbaa.Sh
open Go Go.RowKit Go.Proofs.Vx
set_option linter.unusedVariables false
set_option maxRecDepth 100000
set_option maxHeartbeats 1000000
def watchbilllaw06_awake (k : Nat) : Option Bool := ((watchbilllaw06_one ([] : List T_api_Node)).bind fun (t1 : T_api_Node) => ((watchbilllaw06_one ([(T_api_Node.mk 2 (T_api_Name.mk ([] : Str) ([] : Str)) ([] : List T_api_Attr) ([] : List T_api_Node) ([120] : Str)), t1, (T_api_Node.mk 2 (T_api_Name.mk ([] : Str) ([] : Str)) ([] : List T_api_Attr) ([] : List T_api_Node) ([121] : Str))] : List T_api_Node)).bind fun (t3 : T_api_Node) => ((path_Remove k t3 ([1] : List Int)).bind fun (t5 : T_api_Node × Bool) => ((watchbilllaw06_one ([] : List T_api_Node)).bind fun (t7 : T_api_Node) => ((path_Insert k t3 t7 0 ([] : List Int)).bind fun (t9 : T_api_Node × Bool) => ((path_At k t3 ([3] : List Int)).bind fun (t11 : T_api_Node × Bool) => (if (((t5.2 && ((t5.1.Kids.length : Int) == 1)) == true) = true → (0 : Int) ≤ 0 ∧ 0 < (t5.1.Kids.length : Int)) then (((if ((((((t5.2 && ((t5.1.Kids.length : Int) == 1)) && (((rd t5.1.Kids 0).Text) == ([120, 121] : Str))) && t9.2) && ((t9.1.Kids.length : Int) == 4)) && (!t11.2)) == true) = true then path_Places k t3 else some default)).bind fun (t25 : (List (List Int))) => some ((((((t5.2 && ((t5.1.Kids.length : Int) == 1)) && (((rd t5.1.Kids 0).Text) == ([120, 121] : Str))) && t9.2) && ((t9.1.Kids.length : Int) == 4)) && (!t11.2)) && ((t25.length : Int) == 2))) else none)))))))
theorem watchbilllaw06_awake.ok {k : Nat} {r : Bool} (H : watchbilllaw06_awake k = some r) : Vx.Fn Try.prog 6 [] [] (.v (.bool r)) [] := by
  unfold watchbilllaw06_awake at H
  refine Vx.Fn.of_okR Try.func6 rfl (Nat.le_of_ble_eq_true rfl) ?_
  refine Ok.seq ?_
  refine Ok.region (σ' := ⟨[], []⟩) ?_ ?_
  · refine .cv (VOk.asg (d := (.v (.bool false))) rfl rfl) rfl rfl ?_
    exact .done (.rf rfl rfl)
  refine Ok.seq ?_
  obtain ⟨t1, h2, H⟩ := bindE H
  obtain ⟨t3, h4, H⟩ := bindE H
  refine Ok.region (σ' := ⟨[(1, (.bref 1 0))], [(1, (bxN t3))]⟩) ?_ ?_
  · refine .cv (VOk.to (d' := (.agg (e_api_Node (T_api_Node.mk 2 (T_api_Name.mk ([] : Str) ([] : Str)) ([] : List T_api_Attr) ([] : List T_api_Node) ([120] : Str))))) (.build [none, none, none, some 3, some 6, none] [(0, 1), (1, 2), (3, 1), (4, 1), (5, 1)] rfl Try.underlying27 (fa27 Try.underlying27) zo27 rfl rfl) (congrArg D.agg (e_api_Node_c (T_api_Node.mk 2 (T_api_Name.mk ([] : Str) ([] : Str)) ([] : List T_api_Attr) ([] : List T_api_Node) ([120] : Str))).symm)) rfl rfl ?_
    refine .cg (GOk.call rfl rfl cl25 rfl (Fn.weak (ds := [(L 6 e_api_Node ([] : List T_api_Node))]) (watchbilllaw06_one.ok h2) ⟨.nil _, trivial⟩) rfl) rfl rfl ?_
    refine .cv (VOk.to (d' := (.agg (e_api_Node (T_api_Node.mk 2 (T_api_Name.mk ([] : Str) ([] : Str)) ([] : List T_api_Attr) ([] : List T_api_Node) ([121] : Str))))) (.build [none, none, none, some 3, some 6, none] [(0, 1), (1, 2), (3, 1), (4, 1), (5, 1)] rfl Try.underlying27 (fa27 Try.underlying27) zo27 rfl rfl) (congrArg D.agg (e_api_Node_c (T_api_Node.mk 2 (T_api_Name.mk ([] : Str) ([] : Str)) ([] : List T_api_Attr) ([] : List T_api_Node) ([121] : Str))).symm)) rfl rfl ?_
    refine .cg (GOk.to (d' := (L 6 e_api_Node ([(T_api_Node.mk 2 (T_api_Name.mk ([] : Str) ([] : Str)) ([] : List T_api_Attr) ([] : List T_api_Node) ([120] : Str)), t1, (T_api_Node.mk 2 (T_api_Name.mk ([] : Str) ([] : Str)) ([] : List T_api_Attr) ([] : List T_api_Node) ([121] : Str))] : List T_api_Node))) (GOk.lit rfl Try.underlying25 sz27 zs27 rfl rfl rfl rfl) rfl) rfl rfl ?_
    refine .cg (GOk.call rfl rfl cl25 rfl (watchbilllaw06_one.ok h4) rfl) rfl rfl ?_
    refine OpsOk.cons rfl (OpOk.alloc 1 [none, none, none, some 3, some 6, none] rfl zo27 rfl rfl) ?_
    refine OpsOk.cut1 12 (.agg (c_api_Node t3)) (DLe.of_eq (congrArg D.agg (e_api_Node_c _).symm)) ?_
    refine OpsOk.cons rfl (OpOk.to (σ2 := St.put ⟨_, (1, (bxN t3)) :: _⟩ _ .junk) (.storeB rfl sz27 rfl rfl rfl rfl rfl rfl) rfl) ?_
    exact .done (.rf rfl rfl)
  refine Ok.seq ?_
  obtain ⟨t5, h6, H⟩ := bindE H
  refine Ok.region (σ' := ⟨[(1, (.bref 1 0)), (2, (.bref 2 0)), (3, (.v (.bool t5.2)))], [(1, (bxN t3)), (2, (.box .ex (c_api_Node t5.1)))]⟩) ?_ ?_
  · refine .cv (VOk.to (d' := (.agg (e_api_Node t3))) (.loadBAgg rfl Try.underlying27 rfl sz27 rfl rfl rfl) (congrArg D.agg (e_api_Node_c t3).symm)) rfl rfl ?_
    refine .cg (GOk.to (d' := (L 1 (eI .i64) ([1] : List Int))) (GOk.lit rfl Try.underlying28 sz3 zs3 rfl rfl rfl rfl) rfl) rfl rfl ?_
    refine .cg (GOk.call rfl rfl cl21 rfl (path_Remove.ok h6) rfl) rfl rfl ?_
    refine .cv (VOk.mv (d := (.tup [(.agg (e_api_Node t5.1)), (.v (.bool t5.2))])) rfl rfl) rfl rfl ?_
    refine .cv (VOk.extract (d := (.agg (e_api_Node t5.1))) rfl rfl rfl) rfl rfl ?_
    refine .cv (VOk.extract (d := (.v (.bool t5.2))) rfl rfl rfl) rfl rfl ?_
    refine OpsOk.cons rfl (OpOk.alloc 2 [none, none, none, some 3, some 6, none] rfl zo27 rfl rfl) ?_
    refine OpsOk.cut1 17 (.agg [(.v (.int .i64 t5.1.Kind)), (S t5.1.Name.Space), (S t5.1.Name.Local), (L 3 e_api_Attr t5.1.Attrs), (L 6 e_api_Node t5.1.Kids), (S t5.1.Text)]) (DLe.of_eq (congrArg D.agg (e_api_Node_c _).symm)) ?_
    refine OpsOk.cons rfl (OpOk.to (σ2 := St.put ⟨_, (2, (.box .ex (c_api_Node t5.1))) :: _⟩ _ .junk) (.storeB rfl sz27 rfl rfl rfl rfl rfl rfl) rfl) ?_
    refine .cv (VOk.asg (d := (.v (.bool t5.2))) rfl rfl) rfl rfl ?_
    exact .done (.rf rfl rfl)
  refine Ok.seq ?_
  obtain ⟨t7, h8, H⟩ := bindE H
  obtain ⟨t9, h10, H⟩ := bindE H
  refine Ok.le (σ' := ⟨[(1, (.bref 1 0)), (2, (.bref 2 0)), (3, (.v (.bool t5.2)))], [(1, (bxN t3)), (2, (.box .ex (c_api_Node t5.1)))]⟩) (.rf rfl rfl) ?_
  refine Ok.drawE2 (σ' := ⟨[(1, (.bref 1 0)), (2, (.bref 2 0)), (3, (.v (.bool t5.2))), (4, (.bref 4 0)), (5, (.v (.bool t9.2)))], [(1, (bxN t3)), (2, (.box .ex (c_api_Node t5.1))), (4, (.box .ex (c_api_Node t9.1)))]⟩) [⟨true, [(1, (.bref 1 0))], [(1, (bxN t3))], (.agg (e_api_Node t3)), [], false, []⟩, ⟨true, [], [], (.agg (e_api_Node t7)), [], false, []⟩, ⟨true, [(20, (.agg (e_api_Node t3))), (21, (.agg (e_api_Node t7)))], [], (.tup [(.agg (e_api_Node t9.1)), (.v (.bool t9.2))]), [], false, []⟩, ⟨true, [(22, (.tup [(.agg (e_api_Node t9.1)), (.v (.bool t9.2))]))], [], (.tup [(.agg (e_api_Node t9.1)), (.v (.bool t9.2))]), [], false, []⟩, ⟨true, [(19, (.tup [(.agg (e_api_Node t9.1)), (.v (.bool t9.2))]))], [], (.agg (e_api_Node t9.1)), [], false, []⟩, ⟨true, [(19, (.tup [(.agg (e_api_Node t9.1)), (.v (.bool t9.2))]))], [], (.v (.bool t9.2)), [], false, []⟩, ⟨true, [], [], (.bref 4 0), [(4, bx0)], true, []⟩, ⟨true, [(4, (.bref 4 0)), (23, (.agg [(.v (.int .i64 t9.1.Kind)), (S t9.1.Name.Space), (S t9.1.Name.Local), (L 3 e_api_Attr t9.1.Attrs), (L 6 e_api_Node t9.1.Kids), (S t9.1.Text)]))], [(4, bx0)], .junk, [(4, (.box .ex (c_api_Node t9.1)))], false, []⟩, ⟨true, [(24, (.v (.bool t9.2)))], [], (.v (.bool t9.2)), [], false, []⟩] [[], [], [0, 1], [2], [3], [3], [], [4, 6], [5]] mixed (by kernel_rfl) ?_ ?_
  · refine TxtE2.cons ⟨.same _, trivial⟩ ⟨rfl, trivial⟩ (It2.val rfl rfl (fun T hT => (VOk.g (VOk.to (d' := (.agg (e_api_Node t3))) (.loadBAgg rfl Try.underlying27 rfl sz27 rfl hT.1 rfl) (congrArg D.agg (e_api_Node_c t3).symm))))) ?_
    refine TxtE2.cons trivial trivial (It2.val rfl rfl (fun T hT => (GOk.call rfl rfl cl25 rfl (Fn.weak (ds := [(L 6 e_api_Node ([] : List T_api_Node))]) (watchbilllaw06_one.ok h8) ⟨.nil _, trivial⟩) rfl))) ?_
    refine TxtE2.cons ⟨.same _, .same _, trivial⟩ trivial (It2.val rfl rfl (fun T hT => (GOk.call rfl rfl cl20 rfl (Fn.weak (ds := [(.agg (e_api_Node t3)), (.agg (e_api_Node t7)), (.v (.int .i64 0)), (L 1 (eI .i64) ([] : List Int))]) (path_Insert.ok h10) ⟨.same _, .same _, .same _, .nil _, trivial⟩) rfl))) ?_
    refine TxtE2.cons ⟨.same _, trivial⟩ trivial (It2.val rfl rfl (fun T hT => (VOk.g (VOk.mv (d := (.tup [(.agg (e_api_Node t9.1)), (.v (.bool t9.2))])) rfl rfl)))) ?_
    refine TxtE2.cons ⟨.same _, trivial⟩ trivial (It2.val rfl rfl (fun T hT => (VOk.g (VOk.extract (d := (.agg (e_api_Node t9.1))) rfl rfl rfl)))) ?_
    refine TxtE2.cons ⟨.same _, trivial⟩ trivial (It2.val rfl rfl (fun T hT => (VOk.g (VOk.extract (d := (.v (.bool t9.2))) rfl rfl rfl)))) ?_
    refine TxtE2.cons trivial trivial (It2.alloc 4 [none, none, none, some 3, some 6, none] rfl rfl zo27 rfl rfl) ?_
    refine TxtE2.cons ⟨.same _, DLe.of_eq (congrArg D.agg (e_api_Node_c _).symm), trivial⟩ ⟨rfl, trivial⟩ (It2.store rfl rfl sz27 rfl rfl rfl rfl rfl rfl rfl rfl) ?_
    refine TxtE2.cons ⟨.same _, trivial⟩ trivial (It2.val rfl rfl (fun T hT => (VOk.g (VOk.asg (d := (.v (.bool t9.2))) rfl rfl)))) ?_
    exact .done (.rf rfl rfl)
  refine Ok.seq ?_
  obtain ⟨t11, h12, H⟩ := bindE H
  refine Ok.region (σ' := ⟨[(1, (.bref 1 0)), (2, (.bref 2 0)), (3, (.v (.bool t5.2))), (4, (.bref 4 0)), (5, (.v (.bool t9.2))), (7, (.v (.bool t11.2)))], [(1, (bxN t3)), (2, (.box .ex (c_api_Node t5.1))), (4, (.box .ex (c_api_Node t9.1)))]⟩) ?_ ?_
  · refine .cv (VOk.to (d' := (.agg (e_api_Node t3))) (.loadBAgg rfl Try.underlying27 rfl sz27 rfl rfl rfl) (congrArg D.agg (e_api_Node_c t3).symm)) rfl rfl ?_
    refine .cg (GOk.to (d' := (L 1 (eI .i64) ([3] : List Int))) (GOk.lit rfl Try.underlying28 sz3 zs3 rfl rfl rfl rfl) rfl) rfl rfl ?_
    refine .cg (GOk.call rfl rfl cl8 rfl (path_At.ok h12) rfl) rfl rfl ?_
    refine .cv (VOk.mv (d := (.tup [(.agg (e_api_Node t11.1)), (.v (.bool t11.2))])) rfl rfl) rfl rfl ?_
    refine .cv (VOk.extract (d := (.agg (e_api_Node t11.1))) rfl rfl rfl) rfl rfl ?_
    refine .cv (VOk.extract (d := (.v (.bool t11.2))) rfl rfl rfl) rfl rfl ?_
    refine OpsOk.cons rfl (OpOk.alloc 6 [none, none, none, some 3, some 6, none] rfl zo27 rfl rfl) ?_
    refine OpsOk.cut1 29 (.agg [(.v (.int .i64 t11.1.Kind)), (S t11.1.Name.Space), (S t11.1.Name.Local), (L 3 e_api_Attr t11.1.Attrs), (L 6 e_api_Node t11.1.Kids), (S t11.1.Text)]) (DLe.of_eq (congrArg D.agg (e_api_Node_c _).symm)) ?_
    refine OpsOk.cons rfl (OpOk.to (σ2 := St.put ⟨_, (6, (.box .ex (c_api_Node t11.1))) :: _⟩ _ .junk) (.storeB rfl sz27 rfl rfl rfl rfl rfl rfl) rfl) ?_
    refine .cv (VOk.asg (d := (.v (.bool t11.2))) rfl rfl) rfl rfl ?_
    exact .done (.rf rfl rfl)
  refine Ok.seq ?_
  obtain ⟨c16, H⟩ := assertE H
  obtain ⟨t25, h26, H⟩ := bindE H
  refine Ok.region (σ' := ⟨[(0, (.v (.bool ((((((t5.2 && ((t5.1.Kids.length : Int) == 1)) && (((rd t5.1.Kids 0).Text) == ([120, 121] : Str))) && t9.2) && ((t9.1.Kids.length : Int) == 4)) && (!t11.2)) && ((t25.length : Int) == 2)))))], []⟩) ?_ ?_
  · refine .cv (VOk.mv (d := (.v (.bool t5.2))) rfl rfl) rfl rfl ?_
    refine .cv (VOk.mv (d := (.v (.bool t5.2))) rfl rfl) rfl rfl ?_
    refine OpsOk.consI rfl rfl rfl (.one rfl) rfl (fun hw13 => (VOk.g (VOk.to (VOk.fieldB rfl Try.underlying27 rfl sz25 rfl rfl) rfl))) ?_
    refine OpsOk.consI rfl rfl rfl (.one rfl) rfl (fun hw13 => (GOk.fr (fr' := [(33, (.bref 2 4))]) ⟨DLe.of_eq (cT hw13).symm, trivial⟩ (VOk.g (VOk.loadB (d := (L 6 e_api_Node t5.1.Kids)) rfl Try.underlying25 rfl rfl rfl rfl)))) ?_
    refine OpsOk.consI rfl rfl rfl (.one rfl) rfl (fun hw13 => (GOk.fr (fr' := [(34, (L 6 e_api_Node t5.1.Kids))]) ⟨DLe.of_eq (cT hw13).symm, trivial⟩ (VOk.g (VOk.lenL (e := e_api_Node) (xs := t5.1.Kids) rfl Try.underlying25 rfl)))) ?_
    refine OpsOk.consI rfl rfl rfl (.one rfl) rfl (fun hw13 => (GOk.fr (fr' := [(35, (.v (.int .i64 (t5.1.Kids.length : Int))))]) ⟨DLe.of_eq (cT hw13).symm, trivial⟩ (VOk.g (VOk.arith (op := .eql) (k := .i64) (a := (t5.1.Kids.length : Int)) (b := 1) rfl rfl rfl rfl)))) ?_
    refine .cv (VOk.to (VOk.pickI (b := t5.2) (p := ((t5.1.Kids.length : Int) == 1)) (q := false) rfl rfl (fun hp14 => (cT (t_beq hp14))) (fun hp14 => rfl)) (pickAnd t5.2 ((t5.1.Kids.length : Int) == 1))) rfl rfl ?_
    refine .cv (VOk.mv (d := (.v (.bool (t5.2 && ((t5.1.Kids.length : Int) == 1))))) rfl rfl) rfl rfl ?_
    refine OpsOk.consI rfl rfl rfl (.one rfl) rfl (fun hw15 => (VOk.g (VOk.to (VOk.fieldB rfl Try.underlying27 rfl sz25 rfl rfl) rfl))) ?_
    refine OpsOk.consI rfl rfl rfl (.one rfl) rfl (fun hw15 => (GOk.fr (fr' := [(39, (.bref 2 4))]) ⟨DLe.of_eq (cT hw15).symm, trivial⟩ (VOk.g (VOk.loadB (d := (L 6 e_api_Node t5.1.Kids)) rfl Try.underlying25 rfl rfl rfl rfl)))) ?_
    refine OpsOk.consI rfl rfl rfl (.one rfl) rfl (fun hw15 => (GOk.fr (fr' := [(40, (L 6 e_api_Node t5.1.Kids))]) ⟨DLe.of_eq (cT hw15).symm, trivial⟩ (VOk.g (VOk.indexL (sz := 6) (e := e_api_Node) (xs := t5.1.Kids) (i := 0) rfl Try.underlying25 sz27 rfl rfl (c16 hw15))))) ?_
    refine OpsOk.consI rfl rfl rfl (.one rfl) rfl (fun hw15 => (GOk.fr (fr' := [(41, (.fp (e_api_Node (rd t5.1.Kids 0)) 0))]) ⟨DLe.of_eq (cT hw15).symm, trivial⟩ (VOk.g (VOk.to (VOk.fieldFp rfl Try.underlying27 rfl sz9 rfl) rfl)))) ?_
    refine OpsOk.consI rfl rfl rfl (.one rfl) rfl (fun hw15 => (GOk.fr (fr' := [(42, (.fp (e_api_Node (rd t5.1.Kids 0)) 5))]) ⟨DLe.of_eq (cT hw15).symm, trivial⟩ (VOk.g (VOk.loadFp (d := (S ((rd t5.1.Kids 0).Text))) rfl Try.underlying9 rfl rfl rfl)))) ?_
    refine OpsOk.consI rfl rfl rfl (.one rfl) rfl (fun hw15 => (GOk.fr (fr' := [(43, (S ((rd t5.1.Kids 0).Text)))]) ⟨DLe.of_eq (cT hw15).symm, trivial⟩ (VOk.g (VOk.strOp (op := .eql) (a := (rd t5.1.Kids 0).Text) (b := ([120, 121] : Str)) rfl rfl rfl rfl)))) ?_
    refine .cv (VOk.to (VOk.pickI (b := (t5.2 && ((t5.1.Kids.length : Int) == 1))) (p := (((rd t5.1.Kids 0).Text) == ([120, 121] : Str))) (q := false) rfl rfl (fun hp17 => (cT (t_beq hp17))) (fun hp17 => rfl)) (pickAnd (t5.2 && ((t5.1.Kids.length : Int) == 1)) (((rd t5.1.Kids 0).Text) == ([120, 121] : Str)))) rfl rfl ?_
    refine .cv (VOk.mv (d := (.v (.bool ((t5.2 && ((t5.1.Kids.length : Int) == 1)) && (((rd t5.1.Kids 0).Text) == ([120, 121] : Str)))))) rfl rfl) rfl rfl ?_
    refine OpsOk.consI rfl rfl rfl (.one rfl) rfl (fun hw18 => (VOk.g (VOk.mv (d := (.v (.bool t9.2))) rfl rfl))) ?_
    refine .cv (VOk.to (VOk.pickI (b := ((t5.2 && ((t5.1.Kids.length : Int) == 1)) && (((rd t5.1.Kids 0).Text) == ([120, 121] : Str)))) (p := t9.2) (q := false) rfl rfl (fun hp19 => (cT (t_beq hp19))) (fun hp19 => rfl)) (pickAnd ((t5.2 && ((t5.1.Kids.length : Int) == 1)) && (((rd t5.1.Kids 0).Text) == ([120, 121] : Str))) t9.2)) rfl rfl ?_
    refine .cv (VOk.mv (d := (.v (.bool (((t5.2 && ((t5.1.Kids.length : Int) == 1)) && (((rd t5.1.Kids 0).Text) == ([120, 121] : Str))) && t9.2)))) rfl rfl) rfl rfl ?_
    refine OpsOk.consI rfl rfl rfl (.one rfl) rfl (fun hw20 => (VOk.g (VOk.to (VOk.fieldB rfl Try.underlying27 rfl sz25 rfl rfl) rfl))) ?_
    refine OpsOk.consI rfl rfl rfl (.one rfl) rfl (fun hw20 => (GOk.fr (fr' := [(50, (.bref 4 4))]) ⟨DLe.of_eq (cT hw20).symm, trivial⟩ (VOk.g (VOk.loadB (d := (L 6 e_api_Node t9.1.Kids)) rfl Try.underlying25 rfl rfl rfl rfl)))) ?_
    refine OpsOk.consI rfl rfl rfl (.one rfl) rfl (fun hw20 => (GOk.fr (fr' := [(51, (L 6 e_api_Node t9.1.Kids))]) ⟨DLe.of_eq (cT hw20).symm, trivial⟩ (VOk.g (VOk.lenL (e := e_api_Node) (xs := t9.1.Kids) rfl Try.underlying25 rfl)))) ?_
    refine OpsOk.consI rfl rfl rfl (.one rfl) rfl (fun hw20 => (GOk.fr (fr' := [(52, (.v (.int .i64 (t9.1.Kids.length : Int))))]) ⟨DLe.of_eq (cT hw20).symm, trivial⟩ (VOk.g (VOk.arith (op := .eql) (k := .i64) (a := (t9.1.Kids.length : Int)) (b := 4) rfl rfl rfl rfl)))) ?_
    refine .cv (VOk.to (VOk.pickI (b := (((t5.2 && ((t5.1.Kids.length : Int) == 1)) && (((rd t5.1.Kids 0).Text) == ([120, 121] : Str))) && t9.2)) (p := ((t9.1.Kids.length : Int) == 4)) (q := false) rfl rfl (fun hp21 => (cT (t_beq hp21))) (fun hp21 => rfl)) (pickAnd (((t5.2 && ((t5.1.Kids.length : Int) == 1)) && (((rd t5.1.Kids 0).Text) == ([120, 121] : Str))) && t9.2) ((t9.1.Kids.length : Int) == 4))) rfl rfl ?_
    refine .cv (VOk.mv (d := (.v (.bool ((((t5.2 && ((t5.1.Kids.length : Int) == 1)) && (((rd t5.1.Kids 0).Text) == ([120, 121] : Str))) && t9.2) && ((t9.1.Kids.length : Int) == 4))))) rfl rfl) rfl rfl ?_
    refine OpsOk.consI rfl rfl rfl (.one rfl) rfl (fun hw22 => (VOk.g (VOk.mv (d := (.v (.bool t11.2))) rfl rfl))) ?_
    refine OpsOk.consI rfl rfl rfl (.one rfl) rfl (fun hw22 => (GOk.fr (fr' := [(56, (.v (.bool t11.2)))]) ⟨DLe.of_eq (cT hw22).symm, trivial⟩ (VOk.g (VOk.not (b := t11.2) rfl rfl)))) ?_
    refine .cv (VOk.to (VOk.pickI (b := ((((t5.2 && ((t5.1.Kids.length : Int) == 1)) && (((rd t5.1.Kids 0).Text) == ([120, 121] : Str))) && t9.2) && ((t9.1.Kids.length : Int) == 4))) (p := (!t11.2)) (q := false) rfl rfl (fun hp23 => (cT (t_beq hp23))) (fun hp23 => rfl)) (pickAnd ((((t5.2 && ((t5.1.Kids.length : Int) == 1)) && (((rd t5.1.Kids 0).Text) == ([120, 121] : Str))) && t9.2) && ((t9.1.Kids.length : Int) == 4)) (!t11.2))) rfl rfl ?_
    refine .cv (VOk.mv (d := (.v (.bool (((((t5.2 && ((t5.1.Kids.length : Int) == 1)) && (((rd t5.1.Kids 0).Text) == ([120, 121] : Str))) && t9.2) && ((t9.1.Kids.length : Int) == 4)) && (!t11.2))))) rfl rfl) rfl rfl ?_
    refine OpsOk.consI rfl rfl rfl (.one rfl) rfl (fun hw24 => (VOk.g (VOk.to (d' := (.agg (e_api_Node t3))) (.loadBAgg rfl Try.underlying27 rfl sz27 rfl rfl rfl) (congrArg D.agg (e_api_Node_c t3).symm)))) ?_
    refine OpsOk.consI rfl rfl rfl (.one rfl) rfl (fun hw24 => (GOk.fr (fr' := [(60, (.agg (e_api_Node t3)))]) ⟨DLe.of_eq (cT hw24).symm, trivial⟩ (GOk.call rfl rfl cl10 rfl (path_Places.ok (ifT h26 hw24)) rfl))) ?_
    refine OpsOk.consI rfl rfl rfl (.one rfl) rfl (fun hw24 => (GOk.fr (fr' := [(61, (L 1 (eL 1 (eI .i64)) t25))]) ⟨DLe.of_eq (cT hw24).symm, trivial⟩ (VOk.g (VOk.lenL (e := (eL 1 (eI .i64))) (xs := t25) rfl Try.underlying34 rfl)))) ?_
    refine OpsOk.consI rfl rfl rfl (.one rfl) rfl (fun hw24 => (GOk.fr (fr' := [(62, (.v (.int .i64 (t25.length : Int))))]) ⟨DLe.of_eq (cT hw24).symm, trivial⟩ (VOk.g (VOk.arith (op := .eql) (k := .i64) (a := (t25.length : Int)) (b := 2) rfl rfl rfl rfl)))) ?_
    refine .cv (VOk.to (VOk.pickI (b := (((((t5.2 && ((t5.1.Kids.length : Int) == 1)) && (((rd t5.1.Kids 0).Text) == ([120, 121] : Str))) && t9.2) && ((t9.1.Kids.length : Int) == 4)) && (!t11.2))) (p := ((t25.length : Int) == 2)) (q := false) rfl rfl (fun hp27 => (cT (t_beq hp27))) (fun hp27 => rfl)) (pickAnd (((((t5.2 && ((t5.1.Kids.length : Int) == 1)) && (((rd t5.1.Kids 0).Text) == ([120, 121] : Str))) && t9.2) && ((t9.1.Kids.length : Int) == 4)) && (!t11.2)) ((t25.length : Int) == 2))) rfl rfl ?_
    refine .cv (VOk.asg (d := (.v (.bool ((((((t5.2 && ((t5.1.Kids.length : Int) == 1)) && (((rd t5.1.Kids 0).Text) == ([120, 121] : Str))) && t9.2) && ((t9.1.Kids.length : Int) == 4)) && (!t11.2)) && ((t25.length : Int) == 2))))) rfl rfl) rfl rfl ?_
    exact .done (.rf rfl rfl)
  refine Ok.ret ?_
  obtain rfl := Option.some.inj H
  exact ⟨.inl rfl, ⟨_, (.cons (.tmp rfl) .nil), rfl⟩, trivial⟩

def watchbilllaw06_PathBack.j0 (k : Nat) (a0 : T_api_Node) (a1 : T_api_Node) (a3 : T_api_Attr) (a4 : List Int) : Option Bool := ((path_At k a0 a4).bind fun (t17 : T_api_Node × Bool) => (if (t17.2 && (t17.1.Kind == 1)) = true then ((path_Replace k a0 a1 a4).bind fun (t21 : T_api_Node × Bool) => ((path_Replace k t21.1 t17.1 a4).bind fun (t23 : T_api_Node × Bool) => (((if (((!t21.2) || (!t23.2)) == false) = true then watchbillref04_Equal k t23.1 a0 else some default)).bind fun (t28 : Bool) => (if (((!t21.2) || (!t23.2)) || (!t28)) = true then some false else ((tree_Get k t17.1 a3.Name).bind fun (t31 : Str × Bool) => (if (!t31.2) = true then ((path_SetAttr k a0 a3 a4).bind fun (t33 : T_api_Node × Bool) => ((path_DropAttr k t33.1 a3.Name a4).bind fun (t35 : T_api_Node × Bool) => ((path_At k t33.1 a4).bind fun (t37 : T_api_Node × Bool) => ((tree_Get k t37.1 a3.Name).bind fun (t39 : Str × Bool) => (((if ((((t33.2 && t35.2) && t39.2) && (t39.1 == a3.Value)) == true) = true then watchbillref04_Equal k t35.1 a0 else some default)).bind fun (t48 : Bool) => some ((((t33.2 && t35.2) && t39.2) && (t39.1 == a3.Value)) && t48)))))) else some true)))))) else some true))
def watchbilllaw06_PathBack.j1 (k : Nat) (a0 : T_api_Node) (a1 : T_api_Node) (a3 : T_api_Attr) (a4 : List Int) (t58 : T_api_Node × Bool) (t60 : T_api_Node × Bool) (x18_62 : Bool) : Option Bool := (((if ((!t58.2) == false) = true then watchbillref04_Equal k t58.1 a1 else some default)).bind fun (t64 : Bool) => (((if (((((!t58.2) || (!t64)) || (!t60.2)) == false) && ((!x18_62) == true)) = true then watchbillref04_Equal k t60.1 a0 else some default)).bind fun (t71 : Bool) => (if ((((!t58.2) || (!t64)) || (!t60.2)) || ((!x18_62) && (!t71))) = true then some false else watchbilllaw06_PathBack.j0 k a0 a1 a3 a4)))
def watchbilllaw06_PathBack (k : Nat) (a0 : T_api_Node) (a1 : T_api_Node) (a2 : Int) (a3 : T_api_Attr) (a4 : List Int) : Option Bool := ((watchbilllaw06_awake k).bind fun (t1 : Bool) => (if (!t1) = true then some false else ((watchbilllaw04_Few k a0).bind fun (t3 : Bool) => (((if ((!t3) == false) = true then watchbilllaw04_Few k a1 else some default)).bind fun (t6 : Bool) => (((if (((!t3) || (!t6)) == false) = true then tree_Right k a0 else some default)).bind fun (t10 : Bool) => (if (((((!t3) || (!t6)) || (!t10)) || (a1.Kind != 1)) || (decide ((a4.length : Int) > 100))) = true then some true else ((path_Insert k a0 a1 a2 a4).bind fun (t54 : T_api_Node × Bool) => (if t54.2 = true then (if (([] : List Int).length + a4.length) * 8 ≤ 140737488355328 then (if ((([] : List Int) ++ a4).length + ([a2] : List Int).length) * 8 ≤ 140737488355328 then ((path_At k t54.1 ((([] : List Int) ++ a4) ++ ([a2] : List Int))).bind fun (t58 : T_api_Node × Bool) => ((path_Remove k t54.1 ((([] : List Int) ++ a4) ++ ([a2] : List Int))).bind fun (t60 : T_api_Node × Bool) => ((path_At k a0 a4).bind fun (t76 : T_api_Node × Bool) => (if ((decide (a2 > 0)) && (decide (a2 < (t76.1.Kids.length : Int)))) = true then (if (0 : Int) ≤ (IntKind.i64.wrap (a2 - 1)) ∧ (IntKind.i64.wrap (a2 - 1)) < (t76.1.Kids.length : Int) then (if (((((rd t76.1.Kids (IntKind.i64.wrap (a2 - 1))).Kind) == 2) == true) = true → (0 : Int) ≤ a2 ∧ a2 < (t76.1.Kids.length : Int)) then watchbilllaw06_PathBack.j1 k a0 a1 a3 a4 t58 t60 ((((rd t76.1.Kids (IntKind.i64.wrap (a2 - 1))).Kind) == 2) && (((rd t76.1.Kids a2).Kind) == 2)) else none) else none) else watchbilllaw06_PathBack.j1 k a0 a1 a3 a4 t58 t60 false)))) else none) else none) else watchbilllaw06_PathBack.j0 k a0 a1 a3 a4))))))))
theorem watchbilllaw06_PathBack.ok {k : Nat} {a0 : T_api_Node} {a1 : T_api_Node} {a2 : Int} {a3 : T_api_Attr} {a4 : List Int} {r : Bool} (H : watchbilllaw06_PathBack k a0 a1 a2 a3 a4 = some r) : Vx.Fn Try.prog 5 [(.agg (e_api_Node a0)), (.agg (e_api_Node a1)), (.v (.int .i64 a2)), (.agg (e_api_Attr a3)), (L 1 (eI .i64) a4)] [] (.v (.bool r)) [] := by
  unfold watchbilllaw06_PathBack at H
  refine Vx.Fn.of_okR Try.func5 rfl (Nat.le_of_ble_eq_true rfl) ?_
  refine Ok.seq ?_
  refine Ok.region (σ' := ⟨[(2, (.v (.int .i64 a2))), (4, (L 1 (eI .i64) a4)), (5, (.bref 5 0)), (6, (.bref 6 0)), (8, (.bref 8 0))], [(5, (bxN a0)), (6, (bxN a1)), (8, (.box .ex (c_api_Attr a3)))]⟩) ?_ ?_
  · refine OpsOk.cut1 0 (.agg (c_api_Node a0)) (DLe.of_eq (congrArg D.agg (e_api_Node_c _).symm)) ?_
    refine OpsOk.cons rfl (OpOk.box 5 (cells := (c_api_Node a0)) rfl rfl rfl rfl) ?_
    refine OpsOk.cut1 1 (.agg (c_api_Node a1)) (DLe.of_eq (congrArg D.agg (e_api_Node_c _).symm)) ?_
    refine OpsOk.cons rfl (OpOk.box 6 (cells := (c_api_Node a1)) rfl rfl rfl rfl) ?_
    refine OpsOk.cons rfl (OpOk.box 8 (cells := [(S a3.Name.Space), (S a3.Name.Local), (S a3.Value)]) rfl rfl rfl rfl) ?_
    refine .cv (VOk.asg (d := (.v (.bool false))) rfl rfl) rfl rfl ?_
    exact .done (.rf rfl rfl)
  refine Ok.seq ?_
  refine Ok.seq ?_
  obtain ⟨t1, h2, H⟩ := bindE H
  refine Ok.region (σ' := ⟨[(2, (.v (.int .i64 a2))), (4, (L 1 (eI .i64) a4)), (5, (.bref 5 0)), (6, (.bref 6 0)), (8, (.bref 8 0)), (38, (.v (.bool (!t1))))], [(5, (bxN a0)), (6, (bxN a1)), (8, (.box .ex (c_api_Attr a3)))]⟩) ?_ ?_
  · refine .cg (GOk.call rfl rfl cl6 rfl (watchbilllaw06_awake.ok h2) rfl) rfl rfl ?_
    refine .cv (VOk.not (b := t1) rfl rfl) rfl rfl ?_
    exact .done (.rf rfl rfl)
  refine Ok.test (b := (!t1)) rfl (fun hb87 => ?_) (fun hb87 => ?_)
  · replace H := ifT H hb87
    refine Ok.seq ?_
    refine Ok.region (σ' := ⟨[(10, (.v (.bool false)))], []⟩) ?_ ?_
    · refine .cv (VOk.asg (d := (.v (.bool false))) rfl rfl) rfl rfl ?_
      exact .done (.rf rfl rfl)
    refine Ok.ret ?_
    obtain rfl := Option.some.inj H
    exact ⟨.inl rfl, ⟨_, (.cons (.tmp rfl) .nil), rfl⟩, trivial⟩
  · replace H := ifF H hb87
    refine Ok.skip ?_
    refine Ok.seq ?_
    refine Ok.seq ?_
    obtain ⟨t3, h4, H⟩ := bindE H
    obtain ⟨t6, h7, H⟩ := bindE H
    obtain ⟨t10, h11, H⟩ := bindE H
    refine Ok.region (σ' := ⟨[(2, (.v (.int .i64 a2))), (4, (L 1 (eI .i64) a4)), (5, (.bref 5 0)), (6, (.bref 6 0)), (8, (.bref 8 0)), (61, (.v (.bool (((((!t3) || (!t6)) || (!t10)) || (a1.Kind != 1)) || (decide ((a4.length : Int) > 100))))))], [(5, (bxN a0)), (6, (bxN a1)), (8, (.box .ex (c_api_Attr a3)))]⟩) ?_ ?_
    · refine .cv (VOk.to (d' := (.agg (e_api_Node a0))) (.loadBAgg rfl Try.underlying27 rfl sz27 rfl rfl rfl) (congrArg D.agg (e_api_Node_c a0).symm)) rfl rfl ?_
      refine .cg (GOk.call rfl rfl cl7 rfl (watchbilllaw04_Few.ok h4) rfl) rfl rfl ?_
      refine .cv (VOk.not (b := t3) rfl rfl) rfl rfl ?_
      refine .cv (VOk.mv (d := (.v (.bool (!t3)))) rfl rfl) rfl rfl ?_
      refine OpsOk.consI rfl rfl rfl (.one rfl) rfl (fun hw5 => (VOk.g (VOk.to (d' := (.agg (e_api_Node a1))) (.loadBAgg rfl Try.underlying27 rfl sz27 rfl rfl rfl) (congrArg D.agg (e_api_Node_c a1).symm)))) ?_
      refine OpsOk.consI rfl rfl rfl (.one rfl) rfl (fun hw5 => (GOk.fr (fr' := [(43, (.agg (e_api_Node a1)))]) ⟨DLe.of_eq (cT hw5).symm, trivial⟩ (GOk.call rfl rfl cl7 rfl (watchbilllaw04_Few.ok (ifT h7 hw5)) rfl))) ?_
      refine OpsOk.consI rfl rfl rfl (.one rfl) rfl (fun hw5 => (GOk.fr (fr' := [(44, (.v (.bool t6)))]) ⟨DLe.of_eq (cT hw5).symm, trivial⟩ (VOk.g (VOk.not (b := t6) rfl rfl)))) ?_
      refine .cv (VOk.to (VOk.pickI (b := (!t3)) (p := true) (q := (!t6)) rfl rfl (fun hp8 => rfl) (fun hp8 => (cT (f_beq hp8)))) (pickOr (!t3) (!t6))) rfl rfl ?_
      refine .cv (VOk.mv (d := (.v (.bool ((!t3) || (!t6))))) rfl rfl) rfl rfl ?_
      refine OpsOk.consI rfl rfl rfl (.one rfl) rfl (fun hw9 => (VOk.g (VOk.to (d' := (.agg (e_api_Node a0))) (.loadBAgg rfl Try.underlying27 rfl sz27 rfl rfl rfl) (congrArg D.agg (e_api_Node_c a0).symm)))) ?_
      refine OpsOk.consI rfl rfl rfl (.one rfl) rfl (fun hw9 => (GOk.fr (fr' := [(48, (.agg (e_api_Node a0)))]) ⟨DLe.of_eq (cT hw9).symm, trivial⟩ (GOk.call rfl rfl cl15 rfl (tree_Right.ok (ifT h11 hw9)) rfl))) ?_
      refine OpsOk.consI rfl rfl rfl (.one rfl) rfl (fun hw9 => (GOk.fr (fr' := [(49, (.v (.bool t10)))]) ⟨DLe.of_eq (cT hw9).symm, trivial⟩ (VOk.g (VOk.not (b := t10) rfl rfl)))) ?_
      refine .cv (VOk.to (VOk.pickI (b := ((!t3) || (!t6))) (p := true) (q := (!t10)) rfl rfl (fun hp12 => rfl) (fun hp12 => (cT (f_beq hp12)))) (pickOr ((!t3) || (!t6)) (!t10))) rfl rfl ?_
      refine .cv (VOk.mv (d := (.v (.bool (((!t3) || (!t6)) || (!t10))))) rfl rfl) rfl rfl ?_
      refine OpsOk.consI rfl rfl rfl (.one rfl) rfl (fun hw13 => (VOk.g (VOk.to (VOk.fieldB rfl Try.underlying27 rfl sz3 rfl rfl) rfl))) ?_
      refine OpsOk.consI rfl rfl rfl (.one rfl) rfl (fun hw13 => (GOk.fr (fr' := [(53, (.bref 6 0))]) ⟨DLe.of_eq (cT hw13).symm, trivial⟩ (VOk.g (VOk.loadB (d := (.v (.int .i64 a1.Kind))) rfl Try.underlying3 rfl rfl rfl rfl)))) ?_
      refine OpsOk.consI rfl rfl rfl (.one rfl) rfl (fun hw13 => (GOk.fr (fr' := [(54, (.v (.int .i64 a1.Kind)))]) ⟨DLe.of_eq (cT hw13).symm, trivial⟩ (VOk.g (VOk.arith (op := .neq) (k := .i64) (a := a1.Kind) (b := 1) rfl rfl rfl rfl)))) ?_
      refine .cv (VOk.to (VOk.pickI (b := (((!t3) || (!t6)) || (!t10))) (p := true) (q := (a1.Kind != 1)) rfl rfl (fun hp14 => rfl) (fun hp14 => (cT (f_beq hp14)))) (pickOr (((!t3) || (!t6)) || (!t10)) (a1.Kind != 1))) rfl rfl ?_
      refine .cv (VOk.mv (d := (.v (.bool ((((!t3) || (!t6)) || (!t10)) || (a1.Kind != 1))))) rfl rfl) rfl rfl ?_
      refine OpsOk.consI rfl rfl rfl (.one rfl) rfl (fun hw15 => (VOk.g (VOk.mv (d := (L 1 (eI .i64) a4)) rfl rfl))) ?_
      refine OpsOk.consI rfl rfl rfl (.one rfl) rfl (fun hw15 => (GOk.fr (fr' := [(58, (L 1 (eI .i64) a4))]) ⟨DLe.of_eq (cT hw15).symm, trivial⟩ (VOk.g (VOk.lenL (e := (eI .i64)) (xs := a4) rfl Try.underlying28 rfl)))) ?_
      refine OpsOk.consI rfl rfl rfl (.one rfl) rfl (fun hw15 => (GOk.fr (fr' := [(59, (.v (.int .i64 (a4.length : Int))))]) ⟨DLe.of_eq (cT hw15).symm, trivial⟩ (VOk.g (VOk.arith (op := .gtr) (k := .i64) (a := (a4.length : Int)) (b := 100) rfl rfl rfl rfl)))) ?_
      refine .cv (VOk.to (VOk.pickI (b := ((((!t3) || (!t6)) || (!t10)) || (a1.Kind != 1))) (p := true) (q := (decide ((a4.length : Int) > 100))) rfl rfl (fun hp16 => rfl) (fun hp16 => (cT (f_beq hp16)))) (pickOr ((((!t3) || (!t6)) || (!t10)) || (a1.Kind != 1)) (decide ((a4.length : Int) > 100)))) rfl rfl ?_
      exact .done (.rf rfl rfl)
    refine Ok.test (b := (((((!t3) || (!t6)) || (!t10)) || (a1.Kind != 1)) || (decide ((a4.length : Int) > 100)))) rfl (fun hb86 => ?_) (fun hb86 => ?_)
    · replace H := ifT H hb86
      refine Ok.seq ?_
      refine Ok.region (σ' := ⟨[(10, (.v (.bool true)))], []⟩) ?_ ?_
      · refine .cv (VOk.asg (d := (.v (.bool true))) rfl rfl) rfl rfl ?_
        exact .done (.rf rfl rfl)
      refine Ok.ret ?_
      obtain rfl := Option.some.inj H
      exact ⟨.inl rfl, ⟨_, (.cons (.tmp rfl) .nil), rfl⟩, trivial⟩
    · replace H := ifF H hb86
      refine Ok.skip ?_
      refine Ok.meet (fun σ => σ = ⟨[(4, (L 1 (eI .i64) a4)), (5, (.bref 5 0)), (6, (.bref 6 0)), (8, (.bref 8 0))], [(5, (bxN a0)), (6, (bxN a1)), (8, (.box .ex (c_api_Attr a3)))]⟩ ∧ watchbilllaw06_PathBack.j0 k a0 a1 a3 a4 = some r) ?_ ?_
      · refine Ok.seq ?_
        obtain ⟨t54, h55, H⟩ := bindE H
        refine Ok.region (σ' := ⟨[(2, (.v (.int .i64 a2))), (4, (L 1 (eI .i64) a4)), (5, (.bref 5 0)), (6, (.bref 6 0)), (8, (.bref 8 0)), (11, (.bref 11 0)), (12, (.v (.bool t54.2)))], [(5, (bxN a0)), (6, (bxN a1)), (8, (.box .ex (c_api_Attr a3))), (11, (.box .ex (c_api_Node t54.1)))]⟩) ?_ ?_
        · refine .cv (VOk.to (d' := (.agg (e_api_Node a0))) (.loadBAgg rfl Try.underlying27 rfl sz27 rfl rfl rfl) (congrArg D.agg (e_api_Node_c a0).symm)) rfl rfl ?_
          refine .cv (VOk.to (d' := (.agg (e_api_Node a1))) (.loadBAgg rfl Try.underlying27 rfl sz27 rfl rfl rfl) (congrArg D.agg (e_api_Node_c a1).symm)) rfl rfl ?_
          refine .cv (VOk.mv (d := (.v (.int .i64 a2))) rfl rfl) rfl rfl ?_
          refine .cv (VOk.mv (d := (L 1 (eI .i64) a4)) rfl rfl) rfl rfl ?_
          refine .cg (GOk.call rfl rfl cl20 rfl (path_Insert.ok h55) rfl) rfl rfl ?_
          refine .cv (VOk.mv (d := (.tup [(.agg (e_api_Node t54.1)), (.v (.bool t54.2))])) rfl rfl) rfl rfl ?_
          refine .cv (VOk.extract (d := (.agg (e_api_Node t54.1))) rfl rfl rfl) rfl rfl ?_
          refine .cv (VOk.extract (d := (.v (.bool t54.2))) rfl rfl rfl) rfl rfl ?_
          refine OpsOk.cons rfl (OpOk.alloc 11 [none, none, none, some 3, some 6, none] rfl zo27 rfl rfl) ?_
          refine OpsOk.cut1 68 (.agg [(.v (.int .i64 t54.1.Kind)), (S t54.1.Name.Space), (S t54.1.Name.Local), (L 3 e_api_Attr t54.1.Attrs), (L 6 e_api_Node t54.1.Kids), (S t54.1.Text)]) (DLe.of_eq (congrArg D.agg (e_api_Node_c _).symm)) ?_
          refine OpsOk.cons rfl (OpOk.to (σ2 := St.put ⟨_, (11, (.box .ex (c_api_Node t54.1))) :: _⟩ _ .junk) (.storeB rfl sz27 rfl rfl rfl rfl rfl rfl) rfl) ?_
          refine .cv (VOk.asg (d := (.v (.bool t54.2))) rfl rfl) rfl rfl ?_
          exact .done (.rf rfl rfl)
        refine Ok.seq ?_
        refine Ok.region (σ' := ⟨[(2, (.v (.int .i64 a2))), (4, (L 1 (eI .i64) a4)), (5, (.bref 5 0)), (6, (.bref 6 0)), (8, (.bref 8 0)), (11, (.bref 11 0)), (70, (.v (.bool t54.2)))], [(5, (bxN a0)), (6, (bxN a1)), (8, (.box .ex (c_api_Attr a3))), (11, (.box .ex (c_api_Node t54.1)))]⟩) ?_ ?_
        · refine .cv (VOk.mv (d := (.v (.bool t54.2))) rfl rfl) rfl rfl ?_
          exact .done (.rf rfl rfl)
        refine Ok.test (b := t54.2) rfl (fun hb85 => ?_) (fun hb85 => ?_)
        · replace H := ifT H hb85
          refine Ok.seq ?_
          obtain ⟨c56, H⟩ := assertE H
          obtain ⟨c57, H⟩ := assertE H
          refine Ok.region (σ' := ⟨[(2, (.v (.int .i64 a2))), (4, (L 1 (eI .i64) a4)), (5, (.bref 5 0)), (6, (.bref 6 0)), (8, (.bref 8 0)), (11, (.bref 11 0)), (13, (.sref 71))], [(5, (bxN a0)), (6, (bxN a1)), (8, (.box .ex (c_api_Attr a3))), (11, (.box .ex (c_api_Node t54.1))), (71, (.rows true 3 1 (((([] : List Int) ++ a4) ++ ([a2] : List Int)).map (eI .i64))))]⟩) ?_ ?_
          · refine OpsOk.cons rfl (OpOk.litT 71 rfl rfl Try.underlying28 sz3 zs3 rfl (rows := ([] : List Int).map (eI .i64)) rfl rfl rfl rfl) ?_
            refine .cv (VOk.mv (d := (L 1 (eI .i64) a4)) rfl rfl) rfl rfl ?_
            refine OpsOk.cons rfl (OpOk.appendL (e := (eI .i64)) (xs := ([] : List Int)) (ys := a4) rfl Try.underlying28 elt3 rfl rfl rfl c56 rfl) ?_
            refine .cv (VOk.mv (d := (.v (.int .i64 a2))) rfl rfl) rfl rfl ?_
            refine .cg (GOk.to (d' := (L 1 (eI .i64) ([a2] : List Int))) (GOk.lit rfl Try.underlying28 sz3 zs3 rfl rfl rfl rfl) rfl) rfl rfl ?_
            refine OpsOk.cons rfl (OpOk.appendL (e := (eI .i64)) (xs := (([] : List Int) ++ a4)) (ys := ([a2] : List Int)) rfl Try.underlying28 elt3 rfl rfl rfl c57 rfl) ?_
            refine .cv (VOk.asg (d := (.sref 71)) rfl rfl) rfl rfl ?_
            exact .done (.rf rfl rfl)
          refine Ok.seq ?_
          obtain ⟨t58, h59, H⟩ := bindE H
          refine Ok.frzL 71 (e := (eI .i64)) (xs := ((([] : List Int) ++ a4) ++ ([a2] : List Int))) rfl ?_
          refine Ok.region (σ' := ⟨[(2, (.v (.int .i64 a2))), (4, (L 1 (eI .i64) a4)), (5, (.bref 5 0)), (6, (.bref 6 0)), (8, (.bref 8 0)), (11, (.bref 11 0)), (13, (L 1 (eI .i64) ((([] : List Int) ++ a4) ++ ([a2] : List Int)))), (14, (.bref 14 0)), (15, (.v (.bool t58.2)))], [(5, (bxN a0)), (6, (bxN a1)), (8, (.box .ex (c_api_Attr a3))), (11, (.box .ex (c_api_Node t54.1))), (14, (.box .ex (c_api_Node t58.1)))]⟩) ?_ ?_
          · refine .cv (VOk.to (d' := (.agg (e_api_Node t54.1))) (.loadBAgg rfl Try.underlying27 rfl sz27 rfl rfl rfl) (congrArg D.agg (e_api_Node_c t54.1).symm)) rfl rfl ?_
            refine .cv (VOk.mv (d := (L 1 (eI .i64) ((([] : List Int) ++ a4) ++ ([a2] : List Int)))) rfl rfl) rfl rfl ?_
            refine .cg (GOk.call rfl rfl cl8 rfl (path_At.ok h59) rfl) rfl rfl ?_
            refine .cv (VOk.mv (d := (.tup [(.agg (e_api_Node t58.1)), (.v (.bool t58.2))])) rfl rfl) rfl rfl ?_
            refine .cv (VOk.extract (d := (.agg (e_api_Node t58.1))) rfl rfl rfl) rfl rfl ?_
            refine .cv (VOk.extract (d := (.v (.bool t58.2))) rfl rfl rfl) rfl rfl ?_
            refine OpsOk.cons rfl (OpOk.alloc 14 [none, none, none, some 3, some 6, none] rfl zo27 rfl rfl) ?_
            refine OpsOk.cut1 81 (.agg [(.v (.int .i64 t58.1.Kind)), (S t58.1.Name.Space), (S t58.1.Name.Local), (L 3 e_api_Attr t58.1.Attrs), (L 6 e_api_Node t58.1.Kids), (S t58.1.Text)]) (DLe.of_eq (congrArg D.agg (e_api_Node_c _).symm)) ?_
            refine OpsOk.cons rfl (OpOk.to (σ2 := St.put ⟨_, (14, (.box .ex (c_api_Node t58.1))) :: _⟩ _ .junk) (.storeB rfl sz27 rfl rfl rfl rfl rfl rfl) rfl) ?_
            refine .cv (VOk.asg (d := (.v (.bool t58.2))) rfl rfl) rfl rfl ?_
            exact .done (.rf rfl rfl)
          refine Ok.seq ?_
          obtain ⟨t60, h61, H⟩ := bindE H
          refine Ok.region (σ' := ⟨[(2, (.v (.int .i64 a2))), (4, (L 1 (eI .i64) a4)), (5, (.bref 5 0)), (6, (.bref 6 0)), (8, (.bref 8 0)), (14, (.bref 14 0)), (15, (.v (.bool t58.2))), (16, (.bref 16 0)), (17, (.v (.bool t60.2)))], [(5, (bxN a0)), (6, (bxN a1)), (8, (.box .ex (c_api_Attr a3))), (14, (.box .ex (c_api_Node t58.1))), (16, (.box .ex (c_api_Node t60.1)))]⟩) ?_ ?_
          · refine .cv (VOk.to (d' := (.agg (e_api_Node t54.1))) (.loadBAgg rfl Try.underlying27 rfl sz27 rfl rfl rfl) (congrArg D.agg (e_api_Node_c t54.1).symm)) rfl rfl ?_
            refine .cv (VOk.mv (d := (L 1 (eI .i64) ((([] : List Int) ++ a4) ++ ([a2] : List Int)))) rfl rfl) rfl rfl ?_
            refine .cg (GOk.call rfl rfl cl21 rfl (path_Remove.ok h61) rfl) rfl rfl ?_
            refine .cv (VOk.mv (d := (.tup [(.agg (e_api_Node t60.1)), (.v (.bool t60.2))])) rfl rfl) rfl rfl ?_
            refine .cv (VOk.extract (d := (.agg (e_api_Node t60.1))) rfl rfl rfl) rfl rfl ?_
            refine .cv (VOk.extract (d := (.v (.bool t60.2))) rfl rfl rfl) rfl rfl ?_
            refine OpsOk.cons rfl (OpOk.alloc 16 [none, none, none, some 3, some 6, none] rfl zo27 rfl rfl) ?_
            refine OpsOk.cut1 87 (.agg [(.v (.int .i64 t60.1.Kind)), (S t60.1.Name.Space), (S t60.1.Name.Local), (L 3 e_api_Attr t60.1.Attrs), (L 6 e_api_Node t60.1.Kids), (S t60.1.Text)]) (DLe.of_eq (congrArg D.agg (e_api_Node_c _).symm)) ?_
            refine OpsOk.cons rfl (OpOk.to (σ2 := St.put ⟨_, (16, (.box .ex (c_api_Node t60.1))) :: _⟩ _ .junk) (.storeB rfl sz27 rfl rfl rfl rfl rfl rfl) rfl) ?_
            refine .cv (VOk.asg (d := (.v (.bool t60.2))) rfl rfl) rfl rfl ?_
            exact .done (.rf rfl rfl)
          refine Ok.seq ?_
          refine Ok.region (σ' := ⟨[(2, (.v (.int .i64 a2))), (4, (L 1 (eI .i64) a4)), (5, (.bref 5 0)), (6, (.bref 6 0)), (8, (.bref 8 0)), (14, (.bref 14 0)), (15, (.v (.bool t58.2))), (16, (.bref 16 0)), (17, (.v (.bool t60.2))), (18, (.v (.bool (decide (a2 > 0)))))], [(5, (bxN a0)), (6, (bxN a1)), (8, (.box .ex (c_api_Attr a3))), (14, (.box .ex (c_api_Node t58.1))), (16, (.box .ex (c_api_Node t60.1)))]⟩) ?_ ?_
          · refine .cv (VOk.mv (d := (.v (.int .i64 a2))) rfl rfl) rfl rfl ?_
            refine .cv (VOk.arith (op := .gtr) (k := .i64) (a := a2) (b := 0) rfl rfl rfl rfl) rfl rfl ?_
            refine .cv (VOk.asg (d := (.v (.bool (decide (a2 > 0))))) rfl rfl) rfl rfl ?_
            exact .done (.rf rfl rfl)
          refine Ok.meet (fun σ => ∃ (x18_62 : Bool), σ = ⟨[(4, (L 1 (eI .i64) a4)), (5, (.bref 5 0)), (6, (.bref 6 0)), (8, (.bref 8 0)), (14, (.bref 14 0)), (15, (.v (.bool t58.2))), (16, (.bref 16 0)), (17, (.v (.bool t60.2))), (18, (.v (.bool x18_62)))], [(5, (bxN a0)), (6, (bxN a1)), (8, (.box .ex (c_api_Attr a3))), (14, (.box .ex (c_api_Node t58.1))), (16, (.box .ex (c_api_Node t60.1)))]⟩ ∧ watchbilllaw06_PathBack.j1 k a0 a1 a3 a4 t58 t60 x18_62 = some r) ?_ ?_
          · refine Ok.seq ?_
            obtain ⟨t76, h77, H⟩ := bindE H
            refine Ok.region (σ' := ⟨[(2, (.v (.int .i64 a2))), (4, (L 1 (eI .i64) a4)), (5, (.bref 5 0)), (6, (.bref 6 0)), (8, (.bref 8 0)), (14, (.bref 14 0)), (15, (.v (.bool t58.2))), (16, (.bref 16 0)), (17, (.v (.bool t60.2))), (18, (.v (.bool (decide (a2 > 0))))), (19, (.bref 19 0))], [(5, (bxN a0)), (6, (bxN a1)), (8, (.box .ex (c_api_Attr a3))), (14, (.box .ex (c_api_Node t58.1))), (16, (.box .ex (c_api_Node t60.1))), (19, (.box .ex (c_api_Node t76.1)))]⟩) ?_ ?_
            · refine .cv (VOk.to (d' := (.agg (e_api_Node a0))) (.loadBAgg rfl Try.underlying27 rfl sz27 rfl rfl rfl) (congrArg D.agg (e_api_Node_c a0).symm)) rfl rfl ?_
              refine .cv (VOk.mv (d := (L 1 (eI .i64) a4)) rfl rfl) rfl rfl ?_
              refine .cg (GOk.call rfl rfl cl8 rfl (path_At.ok h77) rfl) rfl rfl ?_
              refine .cv (VOk.mv (d := (.tup [(.agg (e_api_Node t76.1)), (.v (.bool t76.2))])) rfl rfl) rfl rfl ?_
              refine .cv (VOk.extract (d := (.agg (e_api_Node t76.1))) rfl rfl rfl) rfl rfl ?_
              refine .cv (VOk.extract (d := (.v (.bool t76.2))) rfl rfl rfl) rfl rfl ?_
              refine OpsOk.cons rfl (OpOk.alloc 19 [none, none, none, some 3, some 6, none] rfl zo27 rfl rfl) ?_
              refine OpsOk.cut1 95 (.agg [(.v (.int .i64 t76.1.Kind)), (S t76.1.Name.Space), (S t76.1.Name.Local), (L 3 e_api_Attr t76.1.Attrs), (L 6 e_api_Node t76.1.Kids), (S t76.1.Text)]) (DLe.of_eq (congrArg D.agg (e_api_Node_c _).symm)) ?_
              refine OpsOk.cons rfl (OpOk.to (σ2 := St.put ⟨_, (19, (.box .ex (c_api_Node t76.1))) :: _⟩ _ .junk) (.storeB rfl sz27 rfl rfl rfl rfl rfl rfl) rfl) ?_
              refine .cv (VOk.asg (d := (.v (.bool t76.2))) rfl rfl) rfl rfl ?_
              exact .done (.rf rfl rfl)
            refine Ok.seq ?_
            refine Ok.region (σ' := ⟨[(2, (.v (.int .i64 a2))), (4, (L 1 (eI .i64) a4)), (5, (.bref 5 0)), (6, (.bref 6 0)), (8, (.bref 8 0)), (14, (.bref 14 0)), (15, (.v (.bool t58.2))), (16, (.bref 16 0)), (17, (.v (.bool t60.2))), (19, (.bref 19 0)), (104, (.v (.bool ((decide (a2 > 0)) && (decide (a2 < (t76.1.Kids.length : Int)))))))], [(5, (bxN a0)), (6, (bxN a1)), (8, (.box .ex (c_api_Attr a3))), (14, (.box .ex (c_api_Node t58.1))), (16, (.box .ex (c_api_Node t60.1))), (19, (.box .ex (c_api_Node t76.1)))]⟩) ?_ ?_
            · refine .cv (VOk.mv (d := (.v (.bool (decide (a2 > 0))))) rfl rfl) rfl rfl ?_
              refine .cv (VOk.mv (d := (.v (.bool (decide (a2 > 0))))) rfl rfl) rfl rfl ?_
              refine OpsOk.consI rfl rfl rfl (.one rfl) rfl (fun hw78 => (VOk.g (VOk.mv (d := (.v (.int .i64 a2))) rfl rfl))) ?_
              refine OpsOk.consI rfl rfl rfl (.one rfl) rfl (fun hw78 => (VOk.g (VOk.to (VOk.fieldB rfl Try.underlying27 rfl sz25 rfl rfl) rfl))) ?_
              refine OpsOk.consI rfl rfl rfl (.one rfl) rfl (fun hw78 => (GOk.fr (fr' := [(100, (.bref 19 4))]) ⟨DLe.of_eq (cT hw78).symm, trivial⟩ (VOk.g (VOk.loadB (d := (L 6 e_api_Node t76.1.Kids)) rfl Try.underlying25 rfl rfl rfl rfl)))) ?_
              refine OpsOk.consI rfl rfl rfl (.one rfl) rfl (fun hw78 => (GOk.fr (fr' := [(101, (L 6 e_api_Node t76.1.Kids))]) ⟨DLe.of_eq (cT hw78).symm, trivial⟩ (VOk.g (VOk.lenL (e := e_api_Node) (xs := t76.1.Kids) rfl Try.underlying25 rfl)))) ?_
              refine OpsOk.consI rfl rfl rfl (.one rfl) rfl (fun hw78 => (GOk.fr (fr' := [(99, (.v (.int .i64 a2))), (102, (.v (.int .i64 (t76.1.Kids.length : Int))))]) ⟨DLe.of_eq (cT hw78).symm, DLe.of_eq (cT hw78).symm, trivial⟩ (VOk.g (VOk.arith (op := .lss) (k := .i64) (a := a2) (b := (t76.1.Kids.length : Int)) rfl rfl rfl rfl)))) ?_
              refine .cv (VOk.to (VOk.pickI (b := (decide (a2 > 0))) (p := (decide (a2 < (t76.1.Kids.length : Int)))) (q := false) rfl rfl (fun hp79 => (cT (t_beq hp79))) (fun hp79 => rfl)) (pickAnd (decide (a2 > 0)) (decide (a2 < (t76.1.Kids.length : Int))))) rfl rfl ?_
              exact .done (.rf rfl rfl)
            refine Ok.test (b := ((decide (a2 > 0)) && (decide (a2 < (t76.1.Kids.length : Int))))) rfl (fun hb84 => ?_) (fun hb84 => ?_)
            · replace H := ifT H hb84
              obtain ⟨c80, H⟩ := assertE H
              obtain ⟨c82, H⟩ := assertE H
              refine Ok.region (σ' := ⟨[(4, (L 1 (eI .i64) a4)), (5, (.bref 5 0)), (6, (.bref 6 0)), (8, (.bref 8 0)), (14, (.bref 14 0)), (15, (.v (.bool t58.2))), (16, (.bref 16 0)), (17, (.v (.bool t60.2))), (18, (.v (.bool ((((rd t76.1.Kids (IntKind.i64.wrap (a2 - 1))).Kind) == 2) && (((rd t76.1.Kids a2).Kind) == 2)))))], [(5, (bxN a0)), (6, (bxN a1)), (8, (.box .ex (c_api_Attr a3))), (14, (.box .ex (c_api_Node t58.1))), (16, (.box .ex (c_api_Node t60.1)))]⟩) ?_ ?_
              · refine .cv (VOk.to (VOk.fieldB rfl Try.underlying27 rfl sz25 rfl rfl) rfl) rfl rfl ?_
                refine .cv (VOk.loadB (d := (L 6 e_api_Node t76.1.Kids)) rfl Try.underlying25 rfl rfl rfl rfl) rfl rfl ?_
                refine .cv (VOk.mv (d := (.v (.int .i64 a2))) rfl rfl) rfl rfl ?_
                refine .cv (VOk.arith (op := .sub) (k := .i64) (a := a2) (b := 1) rfl rfl rfl rfl) rfl rfl ?_
                refine .cv (VOk.indexL (sz := 6) (e := e_api_Node) (xs := t76.1.Kids) (i := (IntKind.i64.wrap (a2 - 1))) rfl Try.underlying25 sz27 rfl rfl c80) rfl rfl ?_
                refine .cv (VOk.to (VOk.fieldFp rfl Try.underlying27 rfl sz3 rfl) rfl) rfl rfl ?_
                refine .cv (VOk.loadFp (d := (.v (.int .i64 ((rd t76.1.Kids (IntKind.i64.wrap (a2 - 1))).Kind)))) rfl Try.underlying3 rfl rfl rfl) rfl rfl ?_
                refine .cv (VOk.arith (op := .eql) (k := .i64) (a := (rd t76.1.Kids (IntKind.i64.wrap (a2 - 1))).Kind) (b := 2) rfl rfl rfl rfl) rfl rfl ?_
                refine .cv (VOk.mv (d := (.v (.bool (((rd t76.1.Kids (IntKind.i64.wrap (a2 - 1))).Kind) == 2)))) rfl rfl) rfl rfl ?_
                refine OpsOk.consI rfl rfl rfl (.one rfl) rfl (fun hw81 => (VOk.g (VOk.to (VOk.fieldB rfl Try.underlying27 rfl sz25 rfl rfl) rfl))) ?_
                refine OpsOk.consI rfl rfl rfl (.one rfl) rfl (fun hw81 => (GOk.fr (fr' := [(114, (.bref 19 4))]) ⟨DLe.of_eq (cT hw81).symm, trivial⟩ (VOk.g (VOk.loadB (d := (L 6 e_api_Node t76.1.Kids)) rfl Try.underlying25 rfl rfl rfl rfl)))) ?_
                refine OpsOk.consI rfl rfl rfl (.one rfl) rfl (fun hw81 => (VOk.g (VOk.mv (d := (.v (.int .i64 a2))) rfl rfl))) ?_
                refine OpsOk.consI rfl rfl rfl (.one rfl) rfl (fun hw81 => (GOk.fr (fr' := [(115, (L 6 e_api_Node t76.1.Kids)), (116, (.v (.int .i64 a2)))]) ⟨DLe.of_eq (cT hw81).symm, DLe.of_eq (cT hw81).symm, trivial⟩ (VOk.g (VOk.indexL (sz := 6) (e := e_api_Node) (xs := t76.1.Kids) (i := a2) rfl Try.underlying25 sz27 rfl rfl (c82 hw81))))) ?_
                refine OpsOk.consI rfl rfl rfl (.one rfl) rfl (fun hw81 => (GOk.fr (fr' := [(117, (.fp (e_api_Node (rd t76.1.Kids a2)) 0))]) ⟨DLe.of_eq (cT hw81).symm, trivial⟩ (VOk.g (VOk.to (VOk.fieldFp rfl Try.underlying27 rfl sz3 rfl) rfl)))) ?_
                refine OpsOk.consI rfl rfl rfl (.one rfl) rfl (fun hw81 => (GOk.fr (fr' := [(118, (.fp (e_api_Node (rd t76.1.Kids a2)) 0))]) ⟨DLe.of_eq (cT hw81).symm, trivial⟩ (VOk.g (VOk.loadFp (d := (.v (.int .i64 ((rd t76.1.Kids a2).Kind)))) rfl Try.underlying3 rfl rfl rfl)))) ?_
                refine OpsOk.consI rfl rfl rfl (.one rfl) rfl (fun hw81 => (GOk.fr (fr' := [(119, (.v (.int .i64 ((rd t76.1.Kids a2).Kind))))]) ⟨DLe.of_eq (cT hw81).symm, trivial⟩ (VOk.g (VOk.arith (op := .eql) (k := .i64) (a := (rd t76.1.Kids a2).Kind) (b := 2) rfl rfl rfl rfl)))) ?_
                refine .cv (VOk.to (VOk.pickI (b := (((rd t76.1.Kids (IntKind.i64.wrap (a2 - 1))).Kind) == 2)) (p := (((rd t76.1.Kids a2).Kind) == 2)) (q := false) rfl rfl (fun hp83 => (cT (t_beq hp83))) (fun hp83 => rfl)) (pickAnd (((rd t76.1.Kids (IntKind.i64.wrap (a2 - 1))).Kind) == 2) (((rd t76.1.Kids a2).Kind) == 2))) rfl rfl ?_
                refine .cv (VOk.asg (d := (.v (.bool ((((rd t76.1.Kids (IntKind.i64.wrap (a2 - 1))).Kind) == 2) && (((rd t76.1.Kids a2).Kind) == 2))))) rfl rfl) rfl rfl ?_
                exact .done (.rf rfl rfl)
              exact ⟨((((rd t76.1.Kids (IntKind.i64.wrap (a2 - 1))).Kind) == 2) && (((rd t76.1.Kids a2).Kind) == 2)), rfl, H⟩
            · replace H := ifF H hb84
              refine Ok.region (σ' := ⟨[(4, (L 1 (eI .i64) a4)), (5, (.bref 5 0)), (6, (.bref 6 0)), (8, (.bref 8 0)), (14, (.bref 14 0)), (15, (.v (.bool t58.2))), (16, (.bref 16 0)), (17, (.v (.bool t60.2))), (18, (.v (.bool false)))], [(5, (bxN a0)), (6, (bxN a1)), (8, (.box .ex (c_api_Attr a3))), (14, (.box .ex (c_api_Node t58.1))), (16, (.box .ex (c_api_Node t60.1)))]⟩) ?_ ?_
              · refine .cv (VOk.asg (d := (.v (.bool false))) rfl rfl) rfl rfl ?_
                exact .done (.rf rfl rfl)
              exact ⟨false, rfl, H⟩
          · rintro σ ⟨x18_62, rfl, H⟩
            unfold watchbilllaw06_PathBack.j1 at H
            refine Ok.seq ?_
            obtain ⟨t64, h65, H⟩ := bindE H
            obtain ⟨t71, h72, H⟩ := bindE H
            refine Ok.region (σ' := ⟨[(4, (L 1 (eI .i64) a4)), (5, (.bref 5 0)), (6, (.bref 6 0)), (8, (.bref 8 0)), (143, (.v (.bool ((((!t58.2) || (!t64)) || (!t60.2)) || ((!x18_62) && (!t71))))))], [(5, (bxN a0)), (6, (bxN a1)), (8, (.box .ex (c_api_Attr a3)))]⟩) ?_ ?_
            · refine .cv (VOk.mv (d := (.v (.bool t58.2))) rfl rfl) rfl rfl ?_
              refine .cv (VOk.not (b := t58.2) rfl rfl) rfl rfl ?_
              refine .cv (VOk.mv (d := (.v (.bool (!t58.2)))) rfl rfl) rfl rfl ?_
              refine OpsOk.consI rfl rfl rfl (.one rfl) rfl (fun hw63 => (VOk.g (VOk.to (d' := (.agg (e_api_Node t58.1))) (.loadBAgg rfl Try.underlying27 rfl sz27 rfl rfl rfl) (congrArg D.agg (e_api_Node_c t58.1).symm)))) ?_
              refine OpsOk.consI rfl rfl rfl (.one rfl) rfl (fun hw63 => (VOk.g (VOk.to (d' := (.agg (e_api_Node a1))) (.loadBAgg rfl Try.underlying27 rfl sz27 rfl rfl rfl) (congrArg D.agg (e_api_Node_c a1).symm)))) ?_
              refine OpsOk.consI rfl rfl rfl (.one rfl) rfl (fun hw63 => (GOk.fr (fr' := [(125, (.agg (e_api_Node t58.1))), (126, (.agg (e_api_Node a1)))]) ⟨DLe.of_eq (cT hw63).symm, DLe.of_eq (cT hw63).symm, trivial⟩ (GOk.call rfl rfl cl19 rfl (watchbillref04_Equal.ok (ifT h65 hw63)) rfl))) ?_
              refine OpsOk.consI rfl rfl rfl (.one rfl) rfl (fun hw63 => (GOk.fr (fr' := [(127, (.v (.bool t64)))]) ⟨DLe.of_eq (cT hw63).symm, trivial⟩ (VOk.g (VOk.not (b := t64) rfl rfl)))) ?_
              refine .cv (VOk.to (VOk.pickI (b := (!t58.2)) (p := true) (q := (!t64)) rfl rfl (fun hp66 => rfl) (fun hp66 => (cT (f_beq hp66)))) (pickOr (!t58.2) (!t64))) rfl rfl ?_
              refine .cv (VOk.mv (d := (.v (.bool ((!t58.2) || (!t64))))) rfl rfl) rfl rfl ?_
              refine OpsOk.consI rfl rfl rfl (.one rfl) rfl (fun hw67 => (VOk.g (VOk.mv (d := (.v (.bool t60.2))) rfl rfl))) ?_
              refine OpsOk.consI rfl rfl rfl (.one rfl) rfl (fun hw67 => (GOk.fr (fr' := [(131, (.v (.bool t60.2)))]) ⟨DLe.of_eq (cT hw67).symm, trivial⟩ (VOk.g (VOk.not (b := t60.2) rfl rfl)))) ?_
              refine .cv (VOk.to (VOk.pickI (b := ((!t58.2) || (!t64))) (p := true) (q := (!t60.2)) rfl rfl (fun hp68 => rfl) (fun hp68 => (cT (f_beq hp68)))) (pickOr ((!t58.2) || (!t64)) (!t60.2))) rfl rfl ?_
              refine .cv (VOk.mv (d := (.v (.bool (((!t58.2) || (!t64)) || (!t60.2))))) rfl rfl) rfl rfl ?_
              refine OpsOk.consI rfl rfl rfl (.one rfl) rfl (fun hw69 => (VOk.g (VOk.mv (d := (.v (.bool x18_62))) rfl rfl))) ?_
              refine OpsOk.consI rfl rfl rfl (.one rfl) rfl (fun hw69 => (GOk.fr (fr' := [(135, (.v (.bool x18_62)))]) ⟨DLe.of_eq (cT hw69).symm, trivial⟩ (VOk.g (VOk.not (b := x18_62) rfl rfl)))) ?_
              refine OpsOk.consI rfl rfl rfl (.one rfl) rfl (fun hw69 => (GOk.fr (fr' := [(136, (.v (.bool (!x18_62))))]) ⟨DLe.of_eq (cT hw69).symm, trivial⟩ (VOk.g (VOk.mv (d := (.v (.bool (!x18_62)))) rfl rfl)))) ?_
              refine OpsOk.consI rfl rfl rfl (.two rfl) rfl (fun hw70 => (VOk.g (VOk.to (d' := (.agg (e_api_Node t60.1))) (.loadBAgg rfl Try.underlying27 rfl sz27 rfl rfl rfl) (congrArg D.agg (e_api_Node_c t60.1).symm)))) ?_
              refine OpsOk.consI rfl rfl rfl (.two rfl) rfl (fun hw70 => (VOk.g (VOk.to (d' := (.agg (e_api_Node a0))) (.loadBAgg rfl Try.underlying27 rfl sz27 rfl rfl rfl) (congrArg D.agg (e_api_Node_c a0).symm)))) ?_
              refine OpsOk.consI rfl rfl rfl (.two rfl) rfl (fun hw70 => (GOk.fr (fr' := [(138, (.agg (e_api_Node t60.1))), (139, (.agg (e_api_Node a0)))]) ⟨DLe.of_eq (cT hw70).symm, DLe.of_eq (cT hw70).symm, trivial⟩ (GOk.call rfl rfl cl19 rfl (watchbillref04_Equal.ok (ifT h72 hw70)) rfl))) ?_
              refine OpsOk.consI rfl rfl rfl (.two rfl) rfl (fun hw70 => (GOk.fr (fr' := [(140, (.v (.bool t71)))]) ⟨DLe.of_eq (cT hw70).symm, trivial⟩ (VOk.g (VOk.not (b := t71) rfl rfl)))) ?_
              refine OpsOk.consI rfl rfl rfl (.one rfl) rfl (fun hw69 => (VOk.g (VOk.to (VOk.pickI (b := (!x18_62)) (p := (!t71)) (q := false) rfl (cT hw69) (fun hp73 => (cT (and_i hw69 (t_beq hp73)))) (fun hp73 => rfl)) (pickAnd (!x18_62) (!t71))))) ?_
              refine .cv (VOk.to (VOk.pickI (b := (((!t58.2) || (!t64)) || (!t60.2))) (p := true) (q := ((!x18_62) && (!t71))) rfl rfl (fun hp74 => rfl) (fun hp74 => (cT (f_beq hp74)))) (pickOr (((!t58.2) || (!t64)) || (!t60.2)) ((!x18_62) && (!t71)))) rfl rfl ?_
              exact .done (.rf rfl rfl)
            refine Ok.test (b := ((((!t58.2) || (!t64)) || (!t60.2)) || ((!x18_62) && (!t71)))) rfl (fun hb75 => ?_) (fun hb75 => ?_)
            · replace H := ifT H hb75
              refine Ok.seq ?_
              refine Ok.region (σ' := ⟨[(10, (.v (.bool false)))], []⟩) ?_ ?_
              · refine .cv (VOk.asg (d := (.v (.bool false))) rfl rfl) rfl rfl ?_
                exact .done (.rf rfl rfl)
              refine Ok.ret ?_
              obtain rfl := Option.some.inj H
              exact ⟨.inl rfl, ⟨_, (.cons (.tmp rfl) .nil), rfl⟩, trivial⟩
            · replace H := ifF H hb75
              refine Ok.le (σ' := ⟨[(4, (L 1 (eI .i64) a4)), (5, (.bref 5 0)), (6, (.bref 6 0)), (8, (.bref 8 0))], [(5, (bxN a0)), (6, (bxN a1)), (8, (.box .ex (c_api_Attr a3)))]⟩) (.rf rfl rfl) ?_
              refine Ok.skip ?_
              exact ⟨rfl, H⟩
        · replace H := ifF H hb85
          refine Ok.le (σ' := ⟨[(4, (L 1 (eI .i64) a4)), (5, (.bref 5 0)), (6, (.bref 6 0)), (8, (.bref 8 0))], [(5, (bxN a0)), (6, (bxN a1)), (8, (.box .ex (c_api_Attr a3)))]⟩) (.rf rfl rfl) ?_
          refine Ok.skip ?_
          exact ⟨rfl, H⟩
      · rintro σ ⟨rfl, H⟩
        unfold watchbilllaw06_PathBack.j0 at H
        refine Ok.seq ?_
        obtain ⟨t17, h18, H⟩ := bindE H
        refine Ok.region (σ' := ⟨[(4, (L 1 (eI .i64) a4)), (5, (.bref 5 0)), (6, (.bref 6 0)), (8, (.bref 8 0)), (21, (.bref 21 0)), (22, (.v (.bool t17.2)))], [(5, (bxN a0)), (6, (bxN a1)), (8, (.box .ex (c_api_Attr a3))), (21, (.box .ex (c_api_Node t17.1)))]⟩) ?_ ?_
        · refine .cv (VOk.to (d' := (.agg (e_api_Node a0))) (.loadBAgg rfl Try.underlying27 rfl sz27 rfl rfl rfl) (congrArg D.agg (e_api_Node_c a0).symm)) rfl rfl ?_
          refine .cv (VOk.mv (d := (L 1 (eI .i64) a4)) rfl rfl) rfl rfl ?_
          refine .cg (GOk.call rfl rfl cl8 rfl (path_At.ok h18) rfl) rfl rfl ?_
          refine .cv (VOk.mv (d := (.tup [(.agg (e_api_Node t17.1)), (.v (.bool t17.2))])) rfl rfl) rfl rfl ?_
          refine .cv (VOk.extract (d := (.agg (e_api_Node t17.1))) rfl rfl rfl) rfl rfl ?_
          refine .cv (VOk.extract (d := (.v (.bool t17.2))) rfl rfl rfl) rfl rfl ?_
          refine OpsOk.cons rfl (OpOk.alloc 21 [none, none, none, some 3, some 6, none] rfl zo27 rfl rfl) ?_
          refine OpsOk.cut1 148 (.agg [(.v (.int .i64 t17.1.Kind)), (S t17.1.Name.Space), (S t17.1.Name.Local), (L 3 e_api_Attr t17.1.Attrs), (L 6 e_api_Node t17.1.Kids), (S t17.1.Text)]) (DLe.of_eq (congrArg D.agg (e_api_Node_c _).symm)) ?_
          refine OpsOk.cons rfl (OpOk.to (σ2 := St.put ⟨_, (21, (.box .ex (c_api_Node t17.1))) :: _⟩ _ .junk) (.storeB rfl sz27 rfl rfl rfl rfl rfl rfl) rfl) ?_
          refine .cv (VOk.asg (d := (.v (.bool t17.2))) rfl rfl) rfl rfl ?_
          exact .done (.rf rfl rfl)
        refine Ok.seq ?_
        refine Ok.seq ?_
        refine Ok.region (σ' := ⟨[(4, (L 1 (eI .i64) a4)), (5, (.bref 5 0)), (6, (.bref 6 0)), (8, (.bref 8 0)), (21, (.bref 21 0)), (155, (.v (.bool (t17.2 && (t17.1.Kind == 1)))))], [(5, (bxN a0)), (6, (bxN a1)), (8, (.box .ex (c_api_Attr a3))), (21, (.box .ex (c_api_Node t17.1)))]⟩) ?_ ?_
        · refine .cv (VOk.mv (d := (.v (.bool t17.2))) rfl rfl) rfl rfl ?_
          refine .cv (VOk.mv (d := (.v (.bool t17.2))) rfl rfl) rfl rfl ?_
          refine OpsOk.consI rfl rfl rfl (.one rfl) rfl (fun hw19 => (VOk.g (VOk.to (VOk.fieldB rfl Try.underlying27 rfl sz3 rfl rfl) rfl))) ?_
          refine OpsOk.consI rfl rfl rfl (.one rfl) rfl (fun hw19 => (GOk.fr (fr' := [(152, (.bref 21 0))]) ⟨DLe.of_eq (cT hw19).symm, trivial⟩ (VOk.g (VOk.loadB (d := (.v (.int .i64 t17.1.Kind))) rfl Try.underlying3 rfl rfl rfl rfl)))) ?_
          refine OpsOk.consI rfl rfl rfl (.one rfl) rfl (fun hw19 => (GOk.fr (fr' := [(153, (.v (.int .i64 t17.1.Kind)))]) ⟨DLe.of_eq (cT hw19).symm, trivial⟩ (VOk.g (VOk.arith (op := .eql) (k := .i64) (a := t17.1.Kind) (b := 1) rfl rfl rfl rfl)))) ?_
          refine .cv (VOk.to (VOk.pickI (b := t17.2) (p := (t17.1.Kind == 1)) (q := false) rfl rfl (fun hp20 => (cT (t_beq hp20))) (fun hp20 => rfl)) (pickAnd t17.2 (t17.1.Kind == 1))) rfl rfl ?_
          exact .done (.rf rfl rfl)
        refine Ok.test (b := (t17.2 && (t17.1.Kind == 1))) rfl (fun hb53 => ?_) (fun hb53 => ?_)
        · replace H := ifT H hb53
          refine Ok.seq ?_
          obtain ⟨t21, h22, H⟩ := bindE H
          refine Ok.region (σ' := ⟨[(4, (L 1 (eI .i64) a4)), (5, (.bref 5 0)), (8, (.bref 8 0)), (21, (.bref 21 0)), (23, (.bref 23 0)), (24, (.v (.bool t21.2)))], [(5, (bxN a0)), (8, (.box .ex (c_api_Attr a3))), (21, (.box .ex (c_api_Node t17.1))), (23, (.box .ex (c_api_Node t21.1)))]⟩) ?_ ?_
          · refine .cv (VOk.to (d' := (.agg (e_api_Node a0))) (.loadBAgg rfl Try.underlying27 rfl sz27 rfl rfl rfl) (congrArg D.agg (e_api_Node_c a0).symm)) rfl rfl ?_
            refine .cv (VOk.to (d' := (.agg (e_api_Node a1))) (.loadBAgg rfl Try.underlying27 rfl sz27 rfl rfl rfl) (congrArg D.agg (e_api_Node_c a1).symm)) rfl rfl ?_
            refine .cv (VOk.mv (d := (L 1 (eI .i64) a4)) rfl rfl) rfl rfl ?_
            refine .cg (GOk.call rfl rfl cl16 rfl (path_Replace.ok h22) rfl) rfl rfl ?_
            refine .cv (VOk.mv (d := (.tup [(.agg (e_api_Node t21.1)), (.v (.bool t21.2))])) rfl rfl) rfl rfl ?_
            refine .cv (VOk.extract (d := (.agg (e_api_Node t21.1))) rfl rfl rfl) rfl rfl ?_
            refine .cv (VOk.extract (d := (.v (.bool t21.2))) rfl rfl rfl) rfl rfl ?_
            refine OpsOk.cons rfl (OpOk.alloc 23 [none, none, none, some 3, some 6, none] rfl zo27 rfl rfl) ?_
            refine OpsOk.cut1 161 (.agg [(.v (.int .i64 t21.1.Kind)), (S t21.1.Name.Space), (S t21.1.Name.Local), (L 3 e_api_Attr t21.1.Attrs), (L 6 e_api_Node t21.1.Kids), (S t21.1.Text)]) (DLe.of_eq (congrArg D.agg (e_api_Node_c _).symm)) ?_
            refine OpsOk.cons rfl (OpOk.to (σ2 := St.put ⟨_, (23, (.box .ex (c_api_Node t21.1))) :: _⟩ _ .junk) (.storeB rfl sz27 rfl rfl rfl rfl rfl rfl) rfl) ?_
            refine .cv (VOk.asg (d := (.v (.bool t21.2))) rfl rfl) rfl rfl ?_
            exact .done (.rf rfl rfl)
          refine Ok.seq ?_
          obtain ⟨t23, h24, H⟩ := bindE H
          refine Ok.region (σ' := ⟨[(4, (L 1 (eI .i64) a4)), (5, (.bref 5 0)), (8, (.bref 8 0)), (21, (.bref 21 0)), (24, (.v (.bool t21.2))), (25, (.bref 25 0)), (26, (.v (.bool t23.2)))], [(5, (bxN a0)), (8, (.box .ex (c_api_Attr a3))), (21, (.box .ex (c_api_Node t17.1))), (25, (.box .ex (c_api_Node t23.1)))]⟩) ?_ ?_
          · refine .cv (VOk.to (d' := (.agg (e_api_Node t21.1))) (.loadBAgg rfl Try.underlying27 rfl sz27 rfl rfl rfl) (congrArg D.agg (e_api_Node_c t21.1).symm)) rfl rfl ?_
            refine .cv (VOk.to (d' := (.agg (e_api_Node t17.1))) (.loadBAgg rfl Try.underlying27 rfl sz27 rfl rfl rfl) (congrArg D.agg (e_api_Node_c t17.1).symm)) rfl rfl ?_
            refine .cv (VOk.mv (d := (L 1 (eI .i64) a4)) rfl rfl) rfl rfl ?_
            refine .cg (GOk.call rfl rfl cl16 rfl (path_Replace.ok h24) rfl) rfl rfl ?_
            refine .cv (VOk.mv (d := (.tup [(.agg (e_api_Node t23.1)), (.v (.bool t23.2))])) rfl rfl) rfl rfl ?_
            refine .cv (VOk.extract (d := (.agg (e_api_Node t23.1))) rfl rfl rfl) rfl rfl ?_
            refine .cv (VOk.extract (d := (.v (.bool t23.2))) rfl rfl rfl) rfl rfl ?_
            refine OpsOk.cons rfl (OpOk.alloc 25 [none, none, none, some 3, some 6, none] rfl zo27 rfl rfl) ?_
            refine OpsOk.cut1 168 (.agg [(.v (.int .i64 t23.1.Kind)), (S t23.1.Name.Space), (S t23.1.Name.Local), (L 3 e_api_Attr t23.1.Attrs), (L 6 e_api_Node t23.1.Kids), (S t23.1.Text)]) (DLe.of_eq (congrArg D.agg (e_api_Node_c _).symm)) ?_
            refine OpsOk.cons rfl (OpOk.to (σ2 := St.put ⟨_, (25, (.box .ex (c_api_Node t23.1))) :: _⟩ _ .junk) (.storeB rfl sz27 rfl rfl rfl rfl rfl rfl) rfl) ?_
            refine .cv (VOk.asg (d := (.v (.bool t23.2))) rfl rfl) rfl rfl ?_
            exact .done (.rf rfl rfl)
          refine Ok.seq ?_
          refine Ok.seq ?_
          obtain ⟨t28, h29, H⟩ := bindE H
          refine Ok.region (σ' := ⟨[(4, (L 1 (eI .i64) a4)), (5, (.bref 5 0)), (8, (.bref 8 0)), (21, (.bref 21 0)), (181, (.v (.bool (((!t21.2) || (!t23.2)) || (!t28)))))], [(5, (bxN a0)), (8, (.box .ex (c_api_Attr a3))), (21, (.box .ex (c_api_Node t17.1)))]⟩) ?_ ?_
          · refine .cv (VOk.mv (d := (.v (.bool t21.2))) rfl rfl) rfl rfl ?_
            refine .cv (VOk.not (b := t21.2) rfl rfl) rfl rfl ?_
            refine .cv (VOk.mv (d := (.v (.bool (!t21.2)))) rfl rfl) rfl rfl ?_
            refine OpsOk.consI rfl rfl rfl (.one rfl) rfl (fun hw25 => (VOk.g (VOk.mv (d := (.v (.bool t23.2))) rfl rfl))) ?_
            refine OpsOk.consI rfl rfl rfl (.one rfl) rfl (fun hw25 => (GOk.fr (fr' := [(173, (.v (.bool t23.2)))]) ⟨DLe.of_eq (cT hw25).symm, trivial⟩ (VOk.g (VOk.not (b := t23.2) rfl rfl)))) ?_
            refine .cv (VOk.to (VOk.pickI (b := (!t21.2)) (p := true) (q := (!t23.2)) rfl rfl (fun hp26 => rfl) (fun hp26 => (cT (f_beq hp26)))) (pickOr (!t21.2) (!t23.2))) rfl rfl ?_
            refine .cv (VOk.mv (d := (.v (.bool ((!t21.2) || (!t23.2))))) rfl rfl) rfl rfl ?_
            refine OpsOk.consI rfl rfl rfl (.one rfl) rfl (fun hw27 => (VOk.g (VOk.to (d' := (.agg (e_api_Node t23.1))) (.loadBAgg rfl Try.underlying27 rfl sz27 rfl rfl rfl) (congrArg D.agg (e_api_Node_c t23.1).symm)))) ?_
            refine OpsOk.consI rfl rfl rfl (.one rfl) rfl (fun hw27 => (VOk.g (VOk.to (d' := (.agg (e_api_Node a0))) (.loadBAgg rfl Try.underlying27 rfl sz27 rfl rfl rfl) (congrArg D.agg (e_api_Node_c a0).symm)))) ?_
            refine OpsOk.consI rfl rfl rfl (.one rfl) rfl (fun hw27 => (GOk.fr (fr' := [(177, (.agg (e_api_Node t23.1))), (178, (.agg (e_api_Node a0)))]) ⟨DLe.of_eq (cT hw27).symm, DLe.of_eq (cT hw27).symm, trivial⟩ (GOk.call rfl rfl cl19 rfl (watchbillref04_Equal.ok (ifT h29 hw27)) rfl))) ?_
            refine OpsOk.consI rfl rfl rfl (.one rfl) rfl (fun hw27 => (GOk.fr (fr' := [(179, (.v (.bool t28)))]) ⟨DLe.of_eq (cT hw27).symm, trivial⟩ (VOk.g (VOk.not (b := t28) rfl rfl)))) ?_
            refine .cv (VOk.to (VOk.pickI (b := ((!t21.2) || (!t23.2))) (p := true) (q := (!t28)) rfl rfl (fun hp30 => rfl) (fun hp30 => (cT (f_beq hp30)))) (pickOr ((!t21.2) || (!t23.2)) (!t28))) rfl rfl ?_
            exact .done (.rf rfl rfl)
          refine Ok.test (b := (((!t21.2) || (!t23.2)) || (!t28))) rfl (fun hb52 => ?_) (fun hb52 => ?_)
          · replace H := ifT H hb52
            refine Ok.seq ?_
            refine Ok.region (σ' := ⟨[(10, (.v (.bool false)))], []⟩) ?_ ?_
            · refine .cv (VOk.asg (d := (.v (.bool false))) rfl rfl) rfl rfl ?_
              exact .done (.rf rfl rfl)
            refine Ok.ret ?_
            obtain rfl := Option.some.inj H
            exact ⟨.inl rfl, ⟨_, (.cons (.tmp rfl) .nil), rfl⟩, trivial⟩
          · replace H := ifF H hb52
            refine Ok.skip ?_
            refine Ok.seq ?_
            obtain ⟨t31, h32, H⟩ := bindE H
            refine Ok.region (σ' := ⟨[(4, (L 1 (eI .i64) a4)), (5, (.bref 5 0)), (8, (.bref 8 0)), (28, (.v (.bool t31.2)))], [(5, (bxN a0)), (8, (.box .ex (c_api_Attr a3)))]⟩) ?_ ?_
            · refine .cv (VOk.to (d' := (.agg (e_api_Node t17.1))) (.loadBAgg rfl Try.underlying27 rfl sz27 rfl rfl rfl) (congrArg D.agg (e_api_Node_c t17.1).symm)) rfl rfl ?_
              refine .cv (VOk.to (VOk.fieldB rfl Try.underlying47 rfl sz23 rfl rfl) rfl) rfl rfl ?_
              refine .cv (VOk.to (d' := (.agg (e_api_Name a3.Name))) (.loadBAgg rfl Try.underlying23 rfl sz23 rfl rfl rfl) rfl) rfl rfl ?_
              refine .cg (GOk.call rfl rfl cl22 rfl (tree_Get.ok h32) rfl) rfl rfl ?_
              refine .cv (VOk.mv (d := (.tup [(S t31.1), (.v (.bool t31.2))])) rfl rfl) rfl rfl ?_
              refine .cv (VOk.extract (d := (S t31.1)) rfl rfl rfl) rfl rfl ?_
              refine .cv (VOk.extract (d := (.v (.bool t31.2))) rfl rfl rfl) rfl rfl ?_
              refine .cv (VOk.asg (d := (S t31.1)) rfl rfl) rfl rfl ?_
              refine .cv (VOk.asg (d := (.v (.bool t31.2))) rfl rfl) rfl rfl ?_
              exact .done (.rf rfl rfl)
            refine Ok.seq ?_
            refine Ok.region (σ' := ⟨[(4, (L 1 (eI .i64) a4)), (5, (.bref 5 0)), (8, (.bref 8 0)), (190, (.v (.bool (!t31.2))))], [(5, (bxN a0)), (8, (.box .ex (c_api_Attr a3)))]⟩) ?_ ?_
            · refine .cv (VOk.mv (d := (.v (.bool t31.2))) rfl rfl) rfl rfl ?_
              refine .cv (VOk.not (b := t31.2) rfl rfl) rfl rfl ?_
              exact .done (.rf rfl rfl)
            refine Ok.test (b := (!t31.2)) rfl (fun hb51 => ?_) (fun hb51 => ?_)
            · replace H := ifT H hb51
              refine Ok.seq ?_
              obtain ⟨t33, h34, H⟩ := bindE H
              refine Ok.region (σ' := ⟨[(4, (L 1 (eI .i64) a4)), (5, (.bref 5 0)), (8, (.bref 8 0)), (29, (.bref 29 0)), (30, (.v (.bool t33.2)))], [(5, (bxN a0)), (8, (.box .ex (c_api_Attr a3))), (29, (.box .ex (c_api_Node t33.1)))]⟩) ?_ ?_
              · refine .cv (VOk.to (d' := (.agg (e_api_Node a0))) (.loadBAgg rfl Try.underlying27 rfl sz27 rfl rfl rfl) (congrArg D.agg (e_api_Node_c a0).symm)) rfl rfl ?_
                refine .cv (VOk.to (d' := (.agg (e_api_Attr a3))) (.loadBAgg rfl Try.underlying47 rfl sz47 rfl rfl rfl) rfl) rfl rfl ?_
                refine .cv (VOk.mv (d := (L 1 (eI .i64) a4)) rfl rfl) rfl rfl ?_
                refine .cg (GOk.call rfl rfl cl23 rfl (path_SetAttr.ok h34) rfl) rfl rfl ?_
                refine .cv (VOk.mv (d := (.tup [(.agg (e_api_Node t33.1)), (.v (.bool t33.2))])) rfl rfl) rfl rfl ?_
                refine .cv (VOk.extract (d := (.agg (e_api_Node t33.1))) rfl rfl rfl) rfl rfl ?_
                refine .cv (VOk.extract (d := (.v (.bool t33.2))) rfl rfl rfl) rfl rfl ?_
                refine OpsOk.cons rfl (OpOk.alloc 29 [none, none, none, some 3, some 6, none] rfl zo27 rfl rfl) ?_
                refine OpsOk.cut1 196 (.agg [(.v (.int .i64 t33.1.Kind)), (S t33.1.Name.Space), (S t33.1.Name.Local), (L 3 e_api_Attr t33.1.Attrs), (L 6 e_api_Node t33.1.Kids), (S t33.1.Text)]) (DLe.of_eq (congrArg D.agg (e_api_Node_c _).symm)) ?_
                refine OpsOk.cons rfl (OpOk.to (σ2 := St.put ⟨_, (29, (.box .ex (c_api_Node t33.1))) :: _⟩ _ .junk) (.storeB rfl sz27 rfl rfl rfl rfl rfl rfl) rfl) ?_
                refine .cv (VOk.asg (d := (.v (.bool t33.2))) rfl rfl) rfl rfl ?_
                exact .done (.rf rfl rfl)
              refine Ok.seq ?_
              obtain ⟨t35, h36, H⟩ := bindE H
              refine Ok.region (σ' := ⟨[(4, (L 1 (eI .i64) a4)), (5, (.bref 5 0)), (8, (.bref 8 0)), (29, (.bref 29 0)), (30, (.v (.bool t33.2))), (31, (.bref 31 0)), (32, (.v (.bool t35.2)))], [(5, (bxN a0)), (8, (.box .ex (c_api_Attr a3))), (29, (.box .ex (c_api_Node t33.1))), (31, (.box .ex (c_api_Node t35.1)))]⟩) ?_ ?_
              · refine .cv (VOk.to (d' := (.agg (e_api_Node t33.1))) (.loadBAgg rfl Try.underlying27 rfl sz27 rfl rfl rfl) (congrArg D.agg (e_api_Node_c t33.1).symm)) rfl rfl ?_
                refine .cv (VOk.to (VOk.fieldB rfl Try.underlying47 rfl sz23 rfl rfl) rfl) rfl rfl ?_
                refine .cv (VOk.to (d' := (.agg (e_api_Name a3.Name))) (.loadBAgg rfl Try.underlying23 rfl sz23 rfl rfl rfl) rfl) rfl rfl ?_
                refine .cv (VOk.mv (d := (L 1 (eI .i64) a4)) rfl rfl) rfl rfl ?_
                refine .cg (GOk.call rfl rfl cl24 rfl (path_DropAttr.ok h36) rfl) rfl rfl ?_
                refine .cv (VOk.mv (d := (.tup [(.agg (e_api_Node t35.1)), (.v (.bool t35.2))])) rfl rfl) rfl rfl ?_
                refine .cv (VOk.extract (d := (.agg (e_api_Node t35.1))) rfl rfl rfl) rfl rfl ?_
                refine .cv (VOk.extract (d := (.v (.bool t35.2))) rfl rfl rfl) rfl rfl ?_
                refine OpsOk.cons rfl (OpOk.alloc 31 [none, none, none, some 3, some 6, none] rfl zo27 rfl rfl) ?_
                refine OpsOk.cut1 204 (.agg [(.v (.int .i64 t35.1.Kind)), (S t35.1.Name.Space), (S t35.1.Name.Local), (L 3 e_api_Attr t35.1.Attrs), (L 6 e_api_Node t35.1.Kids), (S t35.1.Text)]) (DLe.of_eq (congrArg D.agg (e_api_Node_c _).symm)) ?_
                refine OpsOk.cons rfl (OpOk.to (σ2 := St.put ⟨_, (31, (.box .ex (c_api_Node t35.1))) :: _⟩ _ .junk) (.storeB rfl sz27 rfl rfl rfl rfl rfl rfl) rfl) ?_
                refine .cv (VOk.asg (d := (.v (.bool t35.2))) rfl rfl) rfl rfl ?_
                exact .done (.rf rfl rfl)
              refine Ok.seq ?_
              obtain ⟨t37, h38, H⟩ := bindE H
              refine Ok.region (σ' := ⟨[(5, (.bref 5 0)), (8, (.bref 8 0)), (30, (.v (.bool t33.2))), (31, (.bref 31 0)), (32, (.v (.bool t35.2))), (33, (.bref 33 0))], [(5, (bxN a0)), (8, (.box .ex (c_api_Attr a3))), (31, (.box .ex (c_api_Node t35.1))), (33, (.box .ex (c_api_Node t37.1)))]⟩) ?_ ?_
              · refine .cv (VOk.to (d' := (.agg (e_api_Node t33.1))) (.loadBAgg rfl Try.underlying27 rfl sz27 rfl rfl rfl) (congrArg D.agg (e_api_Node_c t33.1).symm)) rfl rfl ?_
                refine .cv (VOk.mv (d := (L 1 (eI .i64) a4)) rfl rfl) rfl rfl ?_
                refine .cg (GOk.call rfl rfl cl8 rfl (path_At.ok h38) rfl) rfl rfl ?_
                refine .cv (VOk.mv (d := (.tup [(.agg (e_api_Node t37.1)), (.v (.bool t37.2))])) rfl rfl) rfl rfl ?_
                refine .cv (VOk.extract (d := (.agg (e_api_Node t37.1))) rfl rfl rfl) rfl rfl ?_
                refine .cv (VOk.extract (d := (.v (.bool t37.2))) rfl rfl rfl) rfl rfl ?_
                refine OpsOk.cons rfl (OpOk.alloc 33 [none, none, none, some 3, some 6, none] rfl zo27 rfl rfl) ?_
                refine OpsOk.cut1 210 (.agg [(.v (.int .i64 t37.1.Kind)), (S t37.1.Name.Space), (S t37.1.Name.Local), (L 3 e_api_Attr t37.1.Attrs), (L 6 e_api_Node t37.1.Kids), (S t37.1.Text)]) (DLe.of_eq (congrArg D.agg (e_api_Node_c _).symm)) ?_
                refine OpsOk.cons rfl (OpOk.to (σ2 := St.put ⟨_, (33, (.box .ex (c_api_Node t37.1))) :: _⟩ _ .junk) (.storeB rfl sz27 rfl rfl rfl rfl rfl rfl) rfl) ?_
                refine .cv (VOk.asg (d := (.v (.bool t37.2))) rfl rfl) rfl rfl ?_
                exact .done (.rf rfl rfl)
              refine Ok.seq ?_
              obtain ⟨t39, h40, H⟩ := bindE H
              refine Ok.region (σ' := ⟨[(5, (.bref 5 0)), (8, (.bref 8 0)), (30, (.v (.bool t33.2))), (31, (.bref 31 0)), (32, (.v (.bool t35.2))), (35, (S t39.1)), (36, (.v (.bool t39.2)))], [(5, (bxN a0)), (8, (.box .ex (c_api_Attr a3))), (31, (.box .ex (c_api_Node t35.1)))]⟩) ?_ ?_
              · refine .cv (VOk.to (d' := (.agg (e_api_Node t37.1))) (.loadBAgg rfl Try.underlying27 rfl sz27 rfl rfl rfl) (congrArg D.agg (e_api_Node_c t37.1).symm)) rfl rfl ?_
                refine .cv (VOk.to (VOk.fieldB rfl Try.underlying47 rfl sz23 rfl rfl) rfl) rfl rfl ?_
                refine .cv (VOk.to (d' := (.agg (e_api_Name a3.Name))) (.loadBAgg rfl Try.underlying23 rfl sz23 rfl rfl rfl) rfl) rfl rfl ?_
                refine .cg (GOk.call rfl rfl cl22 rfl (tree_Get.ok h40) rfl) rfl rfl ?_
                refine .cv (VOk.mv (d := (.tup [(S t39.1), (.v (.bool t39.2))])) rfl rfl) rfl rfl ?_
                refine .cv (VOk.extract (d := (S t39.1)) rfl rfl rfl) rfl rfl ?_
                refine .cv (VOk.extract (d := (.v (.bool t39.2))) rfl rfl rfl) rfl rfl ?_
                refine .cv (VOk.asg (d := (S t39.1)) rfl rfl) rfl rfl ?_
                refine .cv (VOk.asg (d := (.v (.bool t39.2))) rfl rfl) rfl rfl ?_
                exact .done (.rf rfl rfl)
              refine Ok.seq ?_
              obtain ⟨t48, h49, H⟩ := bindE H
              refine Ok.region (σ' := ⟨[(10, (.v (.bool ((((t33.2 && t35.2) && t39.2) && (t39.1 == a3.Value)) && t48))))], []⟩) ?_ ?_
              · refine .cv (VOk.mv (d := (.v (.bool t33.2))) rfl rfl) rfl rfl ?_
                refine .cv (VOk.mv (d := (.v (.bool t33.2))) rfl rfl) rfl rfl ?_
                refine OpsOk.consI rfl rfl rfl (.one rfl) rfl (fun hw41 => (VOk.g (VOk.mv (d := (.v (.bool t35.2))) rfl rfl))) ?_
                refine .cv (VOk.to (VOk.pickI (b := t33.2) (p := t35.2) (q := false) rfl rfl (fun hp42 => (cT (t_beq hp42))) (fun hp42 => rfl)) (pickAnd t33.2 t35.2)) rfl rfl ?_
                refine .cv (VOk.mv (d := (.v (.bool (t33.2 && t35.2)))) rfl rfl) rfl rfl ?_
                refine OpsOk.consI rfl rfl rfl (.one rfl) rfl (fun hw43 => (VOk.g (VOk.mv (d := (.v (.bool t39.2))) rfl rfl))) ?_
                refine .cv (VOk.to (VOk.pickI (b := (t33.2 && t35.2)) (p := t39.2) (q := false) rfl rfl (fun hp44 => (cT (t_beq hp44))) (fun hp44 => rfl)) (pickAnd (t33.2 && t35.2) t39.2)) rfl rfl ?_
                refine .cv (VOk.mv (d := (.v (.bool ((t33.2 && t35.2) && t39.2)))) rfl rfl) rfl rfl ?_
                refine OpsOk.consI rfl rfl rfl (.one rfl) rfl (fun hw45 => (VOk.g (VOk.mv (d := (S t39.1)) rfl rfl))) ?_
                refine OpsOk.consI rfl rfl rfl (.one rfl) rfl (fun hw45 => (VOk.g (VOk.to (VOk.fieldB rfl Try.underlying47 rfl sz9 rfl rfl) rfl))) ?_
                refine OpsOk.consI rfl rfl rfl (.one rfl) rfl (fun hw45 => (GOk.fr (fr' := [(228, (.bref 8 2))]) ⟨DLe.of_eq (cT hw45).symm, trivial⟩ (VOk.g (VOk.loadB (d := (S a3.Value)) rfl Try.underlying9 rfl rfl rfl rfl)))) ?_
                refine OpsOk.consI rfl rfl rfl (.one rfl) rfl (fun hw45 => (GOk.fr (fr' := [(227, (S t39.1)), (229, (S a3.Value))]) ⟨DLe.of_eq (cT hw45).symm, DLe.of_eq (cT hw45).symm, trivial⟩ (VOk.g (VOk.strOp (op := .eql) (a := t39.1) (b := a3.Value) rfl rfl rfl rfl)))) ?_
                refine .cv (VOk.to (VOk.pickI (b := ((t33.2 && t35.2) && t39.2)) (p := (t39.1 == a3.Value)) (q := false) rfl rfl (fun hp46 => (cT (t_beq hp46))) (fun hp46 => rfl)) (pickAnd ((t33.2 && t35.2) && t39.2) (t39.1 == a3.Value))) rfl rfl ?_
                refine .cv (VOk.mv (d := (.v (.bool (((t33.2 && t35.2) && t39.2) && (t39.1 == a3.Value))))) rfl rfl) rfl rfl ?_
                refine OpsOk.consI rfl rfl rfl (.one rfl) rfl (fun hw47 => (VOk.g (VOk.to (d' := (.agg (e_api_Node t35.1))) (.loadBAgg rfl Try.underlying27 rfl sz27 rfl rfl rfl) (congrArg D.agg (e_api_Node_c t35.1).symm)))) ?_
                refine OpsOk.consI rfl rfl rfl (.one rfl) rfl (fun hw47 => (VOk.g (VOk.to (d' := (.agg (e_api_Node a0))) (.loadBAgg rfl Try.underlying27 rfl sz27 rfl rfl rfl) (congrArg D.agg (e_api_Node_c a0).symm)))) ?_
                refine OpsOk.consI rfl rfl rfl (.one rfl) rfl (fun hw47 => (GOk.fr (fr' := [(233, (.agg (e_api_Node t35.1))), (234, (.agg (e_api_Node a0)))]) ⟨DLe.of_eq (cT hw47).symm, DLe.of_eq (cT hw47).symm, trivial⟩ (GOk.call rfl rfl cl19 rfl (watchbillref04_Equal.ok (ifT h49 hw47)) rfl))) ?_
                refine .cv (VOk.to (VOk.pickI (b := (((t33.2 && t35.2) && t39.2) && (t39.1 == a3.Value))) (p := t48) (q := false) rfl rfl (fun hp50 => (cT (t_beq hp50))) (fun hp50 => rfl)) (pickAnd (((t33.2 && t35.2) && t39.2) && (t39.1 == a3.Value)) t48)) rfl rfl ?_
                refine .cv (VOk.asg (d := (.v (.bool ((((t33.2 && t35.2) && t39.2) && (t39.1 == a3.Value)) && t48)))) rfl rfl) rfl rfl ?_
                exact .done (.rf rfl rfl)
              refine Ok.ret ?_
              obtain rfl := Option.some.inj H
              exact ⟨.inl rfl, ⟨_, (.cons (.tmp rfl) .nil), rfl⟩, trivial⟩
            · replace H := ifF H hb51
              refine Ok.skip ?_
              refine Ok.seq ?_
              refine Ok.region (σ' := ⟨[(10, (.v (.bool true)))], []⟩) ?_ ?_
              · refine .cv (VOk.asg (d := (.v (.bool true))) rfl rfl) rfl rfl ?_
                exact .done (.rf rfl rfl)
              refine Ok.ret ?_
              obtain rfl := Option.some.inj H
              exact ⟨.inl rfl, ⟨_, (.cons (.tmp rfl) .nil), rfl⟩, trivial⟩
        · replace H := ifF H hb53
          refine Ok.skip ?_
          refine Ok.seq ?_
          refine Ok.region (σ' := ⟨[(10, (.v (.bool true)))], []⟩) ?_ ?_
          · refine .cv (VOk.asg (d := (.v (.bool true))) rfl rfl) rfl rfl ?_
            exact .done (.rf rfl rfl)
          refine Ok.ret ?_
          obtain rfl := Option.some.inj H
          exact ⟨.inl rfl, ⟨_, (.cons (.tmp rfl) .nil), rfl⟩, trivial⟩

end Go.Proofs.Ytjhbedgepfkdbaa.Sh
